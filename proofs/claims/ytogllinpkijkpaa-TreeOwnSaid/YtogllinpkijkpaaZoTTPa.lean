/-
  The functions of the program compute that.
-/
import Derived.Test.YtogllinpkijkpaaZoTTF
namespace Go.Su.Ytogllinpkijkpaa
open Go.Mx Go.Proofs
set_option maxRecDepth 100000
set_option maxHeartbeats 20000000
set_option linter.unusedVariables false
set_option linter.unusedSimpArgs false
theorem hand_Pick_ok {n : Nat} {a0 : Int} {a1 : Int} {r : Int} (h : hand_Pick n a0 a1 = some r) : PT Try.prog 12 [vi a0,vi a1] (vi r):=by
 unfold hand_Pick at h
 refine PT_bodyA hT Try.func12 rfl (by kernel_rfl) fun bad w=>?_
 refine Qzd hT 1 [0,1] [] ?_
 refine Qg hT 2 [1,5,6] ⟨[(1,vi a1),(5,vi a0),(6,vi a1)],[],0⟩ ?_
 obtain ⟨g1,h⟩:=g0some h
 refine One' hT rfl (ev_rem .i64 a0 a1 g1 (by kernel_rfl) (by kernel_rfl)) ?_
 refine Sz hT 1 [0,1] ⟨[(0,vi (a0.tmod a1)),(1,vi a1)],[],0⟩ ?_
 refine WA_seq ?_
 refine Qzd hT 2 [0,1,9] [(9,vb (decide ((a0.tmod a1) < 0)))] ?_
 obtain ⟨J3,hJ3,h⟩:=jsome h
 refine WA_join (fun s=>∃ (i2 : Int),J3 i2 = some r ∧ s = ⟨[(0,vi i2)],[],1⟩) ?_ ?_
 ·refine Ci h (fun h=>?_) fun h=>?_
  ·refine Rg hT 4 [0] ⟨[(0,vi (wr ((a0.tmod a1) + a1)))],[],0⟩ ?_
   exact oK [0] [] ⟨wr ((a0.tmod a1) + a1),h,rfl⟩
  exact sK [0] [] ⟨a0.tmod a1,h,rfl⟩
 subst hJ3
 rintro s ⟨i2,h,rfl⟩
 refine Qz hT 2 [4] ⟨[(4,vi i2)],[],1⟩ ?_
 obtain rfl:=Option.some.inj h
 exact rK [4] [] ⟨[(4,vi i2)],[],1⟩ ⟨by kernel_rfl,rfl⟩
theorem hand_Decls_ok {n : Nat} {a0 : Int} {r : List Decl} (h : hand_Decls n a0 = some r) : GO Try.prog 24 [] [vi a0] (vs 100 1 s_Decl r) [(100,rb 1 s_Decl r)]:=by
 unfold hand_Decls at h
 refine GO_bodyA hT Try.func24 rfl [] (by kernel_rfl) fun bad w m=>?_
 refine Qz hT 1 [0] ⟨[(0,vi a0)],[],1⟩ ?_
 refine Qg hT 7 [0,4,5,6,7,8,9,10] ⟨[(0,vi a0),(4,.agg [vi 1,vw k_x,vi 0,vz c0]),(5,.agg [vi 1,vw k_y,vi 0,vz c0]),(6,.agg [vi 2,vw k_z,vi 0,vz c0]),(7,.agg [vi 3,vw k_a,vi 0,vz c0]),(8,.agg [vi 4,vw k_t,vi 0,vz c0]),(9,.agg [vi 5,vw k_m,vi 0,vz c0]),(10,vi a0)],[],1⟩ ?_
 obtain ⟨r1,hr1,h⟩:=bsome h
 refine Pt' en12 (hand_Pick_ok hr1) ?_
 refine Sz hT 4 [0,3] ⟨[(0,vi a0),(3,vs 14 1 s_Decl [(Decl.mk 1 k_x 0 c0),(Decl.mk 1 k_y 0 c0),(Decl.mk 2 k_z 0 c0),(Decl.mk 3 k_a 0 c0),(Decl.mk 4 k_t 0 c0),(Decl.mk 5 k_m 0 c0),(Decl.mk 6 k_c r1 c0),(Decl.mk 6 k_d 0 c0)])],[(14,⟨1,42,4,false,false,s_Decl.F [(Decl.mk 1 k_x 0 c0),(Decl.mk 1 k_y 0 c0),(Decl.mk 2 k_z 0 c0),(Decl.mk 3 k_a 0 c0),(Decl.mk 4 k_t 0 c0),(Decl.mk 5 k_m 0 c0),(Decl.mk 6 k_c r1 c0),(Decl.mk 6 k_d 0 c0)]⟩)],2⟩ ?_
 refine WA_seq ?_
 refine Qgd hT 2 [3,16] [(16,vi (wr (a0.tdiv 3)))] ?_
 obtain ⟨r2,hr2,h⟩:=bsome h
 refine Pt' en12 (hand_Pick_ok hr2) ?_
 refine Szd hT 0 [3,17] [(17,vi r2)] ?_
 obtain ⟨J4,hJ4,h⟩:=jsome h
 refine WA_join (fun s=>∃ (l3 : List Decl),J4 l3 = some r ∧ s = ⟨[(3,vs 14 1 s_Decl l3)],[(14,⟨1,42,4,false,false,s_Decl.F l3⟩)],2⟩) ?_ ?_
 ·refine WA_block ?_
  refine Qzd hT 2 [3,17,18] [(18,vb (r2 == 4))] ?_
  refine Ci h (fun h=>?_) fun h=>?_
  ·refine Rgd hT 1 [3,20] [(20,vs 14 1 s_Decl [(Decl.mk 1 k_x 0 c0),(Decl.mk 1 k_y 0 c0),(Decl.mk 2 k_z 0 c0),(Decl.mk 3 k_a 0 c0),(Decl.mk 4 k_t 0 c0),(Decl.mk 5 k_m 0 c0),(Decl.mk 6 k_c r1 c0),(Decl.mk 6 k_d 0 c0)])] ?_
   obtain ⟨x5,hx5,h⟩:=bsome h
   refine One' hT rfl (v_index_own s_Decl 14 1 true ⟨1,42,4,false,false,s_Decl.F [(Decl.mk 1 k_x 0 c0),(Decl.mk 1 k_y 0 c0),(Decl.mk 2 k_z 0 c0),(Decl.mk 3 k_a 0 c0),(Decl.mk 4 k_t 0 c0),(Decl.mk 5 k_m 0 c0),(Decl.mk 6 k_c r1 c0),(Decl.mk 6 k_d 0 c0)]⟩ [(Decl.mk 1 k_x 0 c0),(Decl.mk 1 k_y 0 c0),(Decl.mk 2 k_z 0 c0),(Decl.mk 3 k_a 0 c0),(Decl.mk 4 k_t 0 c0),(Decl.mk 5 k_m 0 c0),(Decl.mk 6 k_c r1 c0),(Decl.mk 6 k_d 0 c0)] .i64 0 hx5) ?_
   refine Sgd hT 1 [3,22] [(22,.box 14 1 (0 : Int).toNat 0)] ?_
   refine One' hT rfl (v_storeRow s_Decl 14 1 ⟨1,42,4,false,false,s_Decl.F [(Decl.mk 1 k_x 0 c0),(Decl.mk 1 k_y 0 c0),(Decl.mk 2 k_z 0 c0),(Decl.mk 3 k_a 0 c0),(Decl.mk 4 k_t 0 c0),(Decl.mk 5 k_m 0 c0),(Decl.mk 6 k_c r1 c0),(Decl.mk 6 k_d 0 c0)]⟩ [(Decl.mk 1 k_x 0 c0),(Decl.mk 1 k_y 0 c0),(Decl.mk 2 k_z 0 c0),(Decl.mk 3 k_a 0 c0),(Decl.mk 4 k_t 0 c0),(Decl.mk 5 k_m 0 c0),(Decl.mk 6 k_c r1 c0),(Decl.mk 6 k_d 0 c0)] (0 : Int).toNat 0 x5 (Decl.mk 2 x5.Name x5.N x5.At) (idx_some hx5).2) ?_
   refine oW [3] ⟨[(3,vs 14 1 s_Decl [(Decl.mk 1 k_x 0 c0),(Decl.mk 1 k_y 0 c0),(Decl.mk 2 k_z 0 c0),(Decl.mk 3 k_a 0 c0),(Decl.mk 4 k_t 0 c0),(Decl.mk 5 k_m 0 c0),(Decl.mk 6 k_c r1 c0),(Decl.mk 6 k_d 0 c0)])],[(14,⟨1,42,4,false,false,s_Decl.F ([(Decl.mk 1 k_x 0 c0),(Decl.mk 1 k_y 0 c0),(Decl.mk 2 k_z 0 c0),(Decl.mk 3 k_a 0 c0),(Decl.mk 4 k_t 0 c0),(Decl.mk 5 k_m 0 c0),(Decl.mk 6 k_c r1 c0),(Decl.mk 6 k_d 0 c0)].set (0 : Int).toNat (Decl.mk 2 x5.Name x5.N x5.At))⟩)],2⟩ ?_
   refine WO_weak (wL [(3,vs 14 1 s_Decl ([(Decl.mk 1 k_x 0 c0),(Decl.mk 1 k_y 0 c0),(Decl.mk 2 k_z 0 c0),(Decl.mk 3 k_a 0 c0),(Decl.mk 4 k_t 0 c0),(Decl.mk 5 k_m 0 c0),(Decl.mk 6 k_c r1 c0),(Decl.mk 6 k_d 0 c0)].set (0 : Int).toNat (Decl.mk 2 x5.Name x5.N x5.At)))] [(14,⟨1,42,4,false,false,s_Decl.F ([(Decl.mk 1 k_x 0 c0),(Decl.mk 1 k_y 0 c0),(Decl.mk 2 k_z 0 c0),(Decl.mk 3 k_a 0 c0),(Decl.mk 4 k_t 0 c0),(Decl.mk 5 k_m 0 c0),(Decl.mk 6 k_c r1 c0),(Decl.mk 6 k_d 0 c0)].set (0 : Int).toNat (Decl.mk 2 x5.Name x5.N x5.At))⟩)] ⟨(VLf.slen (by simp [TE.len,lcopy_length,rcopy_length,clr_length])),trivial⟩ (HLe.refl _)) ?_
   exact oK [3] [(14,14,1)] ⟨[(Decl.mk 1 k_x 0 c0),(Decl.mk 1 k_y 0 c0),(Decl.mk 2 k_z 0 c0),(Decl.mk 3 k_a 0 c0),(Decl.mk 4 k_t 0 c0),(Decl.mk 5 k_m 0 c0),(Decl.mk 6 k_c r1 c0),(Decl.mk 6 k_d 0 c0)].set (0 : Int).toNat (Decl.mk 2 x5.Name x5.N x5.At),h,rfl⟩
  refine Qzd hT 2 [3,17,23] [(23,vb (r2 == 5))] ?_
  refine Ci h (fun h=>?_) fun h=>?_
  ·refine Rgd hT 1 [3,25] [(25,vs 14 1 s_Decl [(Decl.mk 1 k_x 0 c0),(Decl.mk 1 k_y 0 c0),(Decl.mk 2 k_z 0 c0),(Decl.mk 3 k_a 0 c0),(Decl.mk 4 k_t 0 c0),(Decl.mk 5 k_m 0 c0),(Decl.mk 6 k_c r1 c0),(Decl.mk 6 k_d 0 c0)])] ?_
   obtain ⟨x6,hx6,h⟩:=bsome h
   refine One' hT rfl (v_index_own s_Decl 14 1 true ⟨1,42,4,false,false,s_Decl.F [(Decl.mk 1 k_x 0 c0),(Decl.mk 1 k_y 0 c0),(Decl.mk 2 k_z 0 c0),(Decl.mk 3 k_a 0 c0),(Decl.mk 4 k_t 0 c0),(Decl.mk 5 k_m 0 c0),(Decl.mk 6 k_c r1 c0),(Decl.mk 6 k_d 0 c0)]⟩ [(Decl.mk 1 k_x 0 c0),(Decl.mk 1 k_y 0 c0),(Decl.mk 2 k_z 0 c0),(Decl.mk 3 k_a 0 c0),(Decl.mk 4 k_t 0 c0),(Decl.mk 5 k_m 0 c0),(Decl.mk 6 k_c r1 c0),(Decl.mk 6 k_d 0 c0)] .i64 1 hx6) ?_
   refine Sgd hT 1 [3,27] [(27,.box 14 1 (1 : Int).toNat 0)] ?_
   refine One' hT rfl (v_storeRow s_Decl 14 1 ⟨1,42,4,false,false,s_Decl.F [(Decl.mk 1 k_x 0 c0),(Decl.mk 1 k_y 0 c0),(Decl.mk 2 k_z 0 c0),(Decl.mk 3 k_a 0 c0),(Decl.mk 4 k_t 0 c0),(Decl.mk 5 k_m 0 c0),(Decl.mk 6 k_c r1 c0),(Decl.mk 6 k_d 0 c0)]⟩ [(Decl.mk 1 k_x 0 c0),(Decl.mk 1 k_y 0 c0),(Decl.mk 2 k_z 0 c0),(Decl.mk 3 k_a 0 c0),(Decl.mk 4 k_t 0 c0),(Decl.mk 5 k_m 0 c0),(Decl.mk 6 k_c r1 c0),(Decl.mk 6 k_d 0 c0)] (1 : Int).toNat 0 x6 (Decl.mk 2 x6.Name x6.N x6.At) (idx_some hx6).2) ?_
   refine oW [3] ⟨[(3,vs 14 1 s_Decl [(Decl.mk 1 k_x 0 c0),(Decl.mk 1 k_y 0 c0),(Decl.mk 2 k_z 0 c0),(Decl.mk 3 k_a 0 c0),(Decl.mk 4 k_t 0 c0),(Decl.mk 5 k_m 0 c0),(Decl.mk 6 k_c r1 c0),(Decl.mk 6 k_d 0 c0)])],[(14,⟨1,42,4,false,false,s_Decl.F ([(Decl.mk 1 k_x 0 c0),(Decl.mk 1 k_y 0 c0),(Decl.mk 2 k_z 0 c0),(Decl.mk 3 k_a 0 c0),(Decl.mk 4 k_t 0 c0),(Decl.mk 5 k_m 0 c0),(Decl.mk 6 k_c r1 c0),(Decl.mk 6 k_d 0 c0)].set (1 : Int).toNat (Decl.mk 2 x6.Name x6.N x6.At))⟩)],2⟩ ?_
   refine WO_weak (wL [(3,vs 14 1 s_Decl ([(Decl.mk 1 k_x 0 c0),(Decl.mk 1 k_y 0 c0),(Decl.mk 2 k_z 0 c0),(Decl.mk 3 k_a 0 c0),(Decl.mk 4 k_t 0 c0),(Decl.mk 5 k_m 0 c0),(Decl.mk 6 k_c r1 c0),(Decl.mk 6 k_d 0 c0)].set (1 : Int).toNat (Decl.mk 2 x6.Name x6.N x6.At)))] [(14,⟨1,42,4,false,false,s_Decl.F ([(Decl.mk 1 k_x 0 c0),(Decl.mk 1 k_y 0 c0),(Decl.mk 2 k_z 0 c0),(Decl.mk 3 k_a 0 c0),(Decl.mk 4 k_t 0 c0),(Decl.mk 5 k_m 0 c0),(Decl.mk 6 k_c r1 c0),(Decl.mk 6 k_d 0 c0)].set (1 : Int).toNat (Decl.mk 2 x6.Name x6.N x6.At))⟩)] ⟨(VLf.slen (by simp [TE.len,lcopy_length,rcopy_length,clr_length])),trivial⟩ (HLe.refl _)) ?_
   exact oK [3] [(14,14,1)] ⟨[(Decl.mk 1 k_x 0 c0),(Decl.mk 1 k_y 0 c0),(Decl.mk 2 k_z 0 c0),(Decl.mk 3 k_a 0 c0),(Decl.mk 4 k_t 0 c0),(Decl.mk 5 k_m 0 c0),(Decl.mk 6 k_c r1 c0),(Decl.mk 6 k_d 0 c0)].set (1 : Int).toNat (Decl.mk 2 x6.Name x6.N x6.At),h,rfl⟩
  refine Qz hT 2 [3,28] ⟨[(3,vs 14 1 s_Decl [(Decl.mk 1 k_x 0 c0),(Decl.mk 1 k_y 0 c0),(Decl.mk 2 k_z 0 c0),(Decl.mk 3 k_a 0 c0),(Decl.mk 4 k_t 0 c0),(Decl.mk 5 k_m 0 c0),(Decl.mk 6 k_c r1 c0),(Decl.mk 6 k_d 0 c0)]),(28,vb (r2 == 6))],[(14,⟨1,42,4,false,false,s_Decl.F [(Decl.mk 1 k_x 0 c0),(Decl.mk 1 k_y 0 c0),(Decl.mk 2 k_z 0 c0),(Decl.mk 3 k_a 0 c0),(Decl.mk 4 k_t 0 c0),(Decl.mk 5 k_m 0 c0),(Decl.mk 6 k_c r1 c0),(Decl.mk 6 k_d 0 c0)]⟩)],2⟩ ?_
  refine Ci h (fun h=>?_) fun h=>?_
  ·refine Rgd hT 1 [3,30] [(30,vs 14 1 s_Decl [(Decl.mk 1 k_x 0 c0),(Decl.mk 1 k_y 0 c0),(Decl.mk 2 k_z 0 c0),(Decl.mk 3 k_a 0 c0),(Decl.mk 4 k_t 0 c0),(Decl.mk 5 k_m 0 c0),(Decl.mk 6 k_c r1 c0),(Decl.mk 6 k_d 0 c0)])] ?_
   obtain ⟨x7,hx7,h⟩:=bsome h
   refine One' hT rfl (v_index_own s_Decl 14 1 true ⟨1,42,4,false,false,s_Decl.F [(Decl.mk 1 k_x 0 c0),(Decl.mk 1 k_y 0 c0),(Decl.mk 2 k_z 0 c0),(Decl.mk 3 k_a 0 c0),(Decl.mk 4 k_t 0 c0),(Decl.mk 5 k_m 0 c0),(Decl.mk 6 k_c r1 c0),(Decl.mk 6 k_d 0 c0)]⟩ [(Decl.mk 1 k_x 0 c0),(Decl.mk 1 k_y 0 c0),(Decl.mk 2 k_z 0 c0),(Decl.mk 3 k_a 0 c0),(Decl.mk 4 k_t 0 c0),(Decl.mk 5 k_m 0 c0),(Decl.mk 6 k_c r1 c0),(Decl.mk 6 k_d 0 c0)] .i64 0 hx7) ?_
   refine Sgd hT 1 [3,32] [(32,.box 14 1 (0 : Int).toNat 0)] ?_
   refine One' hT rfl (v_storeRow s_Decl 14 1 ⟨1,42,4,false,false,s_Decl.F [(Decl.mk 1 k_x 0 c0),(Decl.mk 1 k_y 0 c0),(Decl.mk 2 k_z 0 c0),(Decl.mk 3 k_a 0 c0),(Decl.mk 4 k_t 0 c0),(Decl.mk 5 k_m 0 c0),(Decl.mk 6 k_c r1 c0),(Decl.mk 6 k_d 0 c0)]⟩ [(Decl.mk 1 k_x 0 c0),(Decl.mk 1 k_y 0 c0),(Decl.mk 2 k_z 0 c0),(Decl.mk 3 k_a 0 c0),(Decl.mk 4 k_t 0 c0),(Decl.mk 5 k_m 0 c0),(Decl.mk 6 k_c r1 c0),(Decl.mk 6 k_d 0 c0)] (0 : Int).toNat 0 x7 (Decl.mk 3 x7.Name x7.N x7.At) (idx_some hx7).2) ?_
   refine oW [3] ⟨[(3,vs 14 1 s_Decl [(Decl.mk 1 k_x 0 c0),(Decl.mk 1 k_y 0 c0),(Decl.mk 2 k_z 0 c0),(Decl.mk 3 k_a 0 c0),(Decl.mk 4 k_t 0 c0),(Decl.mk 5 k_m 0 c0),(Decl.mk 6 k_c r1 c0),(Decl.mk 6 k_d 0 c0)])],[(14,⟨1,42,4,false,false,s_Decl.F ([(Decl.mk 1 k_x 0 c0),(Decl.mk 1 k_y 0 c0),(Decl.mk 2 k_z 0 c0),(Decl.mk 3 k_a 0 c0),(Decl.mk 4 k_t 0 c0),(Decl.mk 5 k_m 0 c0),(Decl.mk 6 k_c r1 c0),(Decl.mk 6 k_d 0 c0)].set (0 : Int).toNat (Decl.mk 3 x7.Name x7.N x7.At))⟩)],2⟩ ?_
   refine WO_weak (wL [(3,vs 14 1 s_Decl ([(Decl.mk 1 k_x 0 c0),(Decl.mk 1 k_y 0 c0),(Decl.mk 2 k_z 0 c0),(Decl.mk 3 k_a 0 c0),(Decl.mk 4 k_t 0 c0),(Decl.mk 5 k_m 0 c0),(Decl.mk 6 k_c r1 c0),(Decl.mk 6 k_d 0 c0)].set (0 : Int).toNat (Decl.mk 3 x7.Name x7.N x7.At)))] [(14,⟨1,42,4,false,false,s_Decl.F ([(Decl.mk 1 k_x 0 c0),(Decl.mk 1 k_y 0 c0),(Decl.mk 2 k_z 0 c0),(Decl.mk 3 k_a 0 c0),(Decl.mk 4 k_t 0 c0),(Decl.mk 5 k_m 0 c0),(Decl.mk 6 k_c r1 c0),(Decl.mk 6 k_d 0 c0)].set (0 : Int).toNat (Decl.mk 3 x7.Name x7.N x7.At))⟩)] ⟨(VLf.slen (by simp [TE.len,lcopy_length,rcopy_length,clr_length])),trivial⟩ (HLe.refl _)) ?_
   exact oK [3] [(14,14,1)] ⟨[(Decl.mk 1 k_x 0 c0),(Decl.mk 1 k_y 0 c0),(Decl.mk 2 k_z 0 c0),(Decl.mk 3 k_a 0 c0),(Decl.mk 4 k_t 0 c0),(Decl.mk 5 k_m 0 c0),(Decl.mk 6 k_c r1 c0),(Decl.mk 6 k_d 0 c0)].set (0 : Int).toNat (Decl.mk 3 x7.Name x7.N x7.At),h,rfl⟩
  exact sK [3] [(14,14,1)] ⟨[(Decl.mk 1 k_x 0 c0),(Decl.mk 1 k_y 0 c0),(Decl.mk 2 k_z 0 c0),(Decl.mk 3 k_a 0 c0),(Decl.mk 4 k_t 0 c0),(Decl.mk 5 k_m 0 c0),(Decl.mk 6 k_c r1 c0),(Decl.mk 6 k_d 0 c0)],h,rfl⟩
 subst hJ4
 rintro s ⟨l3,h,rfl⟩
 refine Qzd hT 2 [2] [(2,vs 14 1 s_Decl l3)] ?_
 refine aW [2] ⟨[(2,vs 14 1 s_Decl l3)],[(14,⟨1,42,4,false,false,s_Decl.F l3⟩)],2⟩ ?_
 refine WA_weak (wL [(2,vs 14 1 s_Decl l3)] [(14,rb 1 s_Decl l3)] ⟨VLf.refl _,trivial⟩ ⟨rfl,.inr (.inr rfl),trivial⟩) ?_
 obtain rfl:=Option.some.inj h
 exact rR [(14,100,1)] ⟨[(2,vs 100 1 s_Decl l3)],[(100,rb 1 s_Decl l3)],2⟩ ⟨by kernel_rfl,by kernel_rfl,rfl⟩
theorem hand_acts_ok {n : Nat} {a0 : List Act} {r : List Act} (h : hand_acts n a0 = some r) : PT Try.prog 26 [po s_Act a0] (po s_Act r):=by
 unfold hand_acts at h
 refine PT_bodyA hT Try.func26 rfl (by kernel_rfl) fun bad w=>?_
 refine Qzd hT 1 [0] [] ?_
 refine WA_seq ?_
 refine Qgd hT 1 [0,3] [(3,po s_Act a0)] ?_
 refine One' hT rfl (v_len s_Act .opt a0) ?_
 refine Szd hT 1 [0,5] [(5,vb (decide ((ln a0) > 16)))] ?_
 refine Ci h (fun h=>?_) fun h=>?_
 ·refine Qg hT 1 [6] ⟨[(6,po s_Act a0)],[],0⟩ ?_
  obtain ⟨l1,hl1,h⟩:=bsome h
  refine One' hT rfl (v_slice s_Act .opt a0 0 16 none l1 .opt hl1 (by intro y hy; cases hy)) ?_
  refine Sz hT 1 [2] ⟨[(2,po s_Act l1)],[],0⟩ ?_
  obtain rfl:=Option.some.inj h
  exact rK [2] [] ⟨[(2,po s_Act l1)],[],1⟩ ⟨by kernel_rfl,rfl⟩
 refine WA_skip ?_
 refine Qz hT 2 [2] ⟨[(2,po s_Act a0)],[],0⟩ ?_
 obtain rfl:=Option.some.inj h
 exact rK [2] [] ⟨[(2,po s_Act a0)],[],1⟩ ⟨by kernel_rfl,rfl⟩
theorem hand_plain_ok {n : Nat} {a0 : Int} {r : ByteArray} (h : hand_plain n a0 = some r) : PT Try.prog 45 [vi a0] (vw r):=by
 unfold hand_plain at h
 refine PT_bodyA hT Try.func45 rfl (by kernel_rfl) fun bad w=>?_
 refine Qz hT 1 [0] ⟨[(0,vi a0)],[],0⟩ ?_
 refine Qg hT 2 [3,4] ⟨[(3,.agg [vw k_x,vw k_x,vw k_y,vw k_z,vw k_a,vw k_t,vw k_x,vw k_y]),(4,vi a0)],[],0⟩ ?_
 obtain ⟨r1,hr1,h⟩:=bsome h
 refine Pt' en12 (hand_Pick_ok hr1) ?_
 refine Sgd hT 0 [3,5] [(5,vi r1)] ?_
 obtain ⟨x2,hx2,h⟩:=bsome h
 refine One' hT rfl (v_indexA e_s [k_x,k_x,k_y,k_z,k_a,k_t,k_x,k_y] .i64 r1 _ _ 9 hx2) ?_
 refine Sz hT 1 [2] ⟨[(2,vw x2)],[],0⟩ ?_
 obtain rfl:=Option.some.inj h
 exact rK [2] [] ⟨[(2,vw x2)],[],1⟩ ⟨by kernel_rfl,rfl⟩
def hand_Expr_spec (n : Nat) : Prop:=(∀ {a0 : List Int} {a1 : Int} {r : Expr},hand_Expr n a0 a1 = some r → PT Try.prog 53 [po s_int a0,vi a1] (eExpr r))
theorem hand_Expr_step (n : Nat) (ih : ∀ m,m < n → hand_Expr_spec m) : ∀ {a0 : List Int} {a1 : Int} {r : Expr},hand_Expr n a0 a1 = some r → PT Try.prog 53 [po s_int a0,vi a1] (eExpr r):=by
 intro a0 a1 r h
 rcases n with _ | n
 ·rw [hand_Expr] at h; cases h
 rw [hand_Expr] at h
 refine PT_bodyA hT Try.func53 rfl (by kernel_rfl) fun bad w=>?_
 refine Qzh hT 1 [0,1,4] [(4,bx 4 0)] [(4,cb 0 36 4 (.agg [vi 0,vi 0,vw b0,vn]))] 1 ?_
 refine WA_seq ?_
 refine Qgd hT 1 [0,1,4,9] [(9,po s_int a0)] ?_
 refine One' hT rfl (v_len s_int .opt a0) ?_
 refine Szd hT 1 [0,1,4,11] [(11,vb ((ln a0) == 0))] ?_
 refine Ci h (fun h=>?_) fun h=>?_
 ·refine Qz hT 2 [4] ⟨[(4,bx 4 0)],[(4,cb 0 36 4 (.agg [vi 1,vi 1,vw b0,vn]))],1⟩ ?_
  refine aW [4] ⟨[(4,bx 4 0)],[(4,cb 0 36 4 (.agg [vi 1,vi 1,vw b0,vn]))],1⟩ ?_
  refine WA_weak (wL [(4,bx 4 0)] [(4,cb 0 36 4 (eExpr (Expr.mk 1 1 b0 [])))] ⟨VLf.refl _,trivial⟩ ⟨rfl,.inr (.inl ⟨rfl,rfl,CLe.agg ⟨VLf.refl _,VLf.refl _,VLf.refl _,(VLe.f VLe.nil_opt rfl),trivial⟩,trivial⟩),trivial⟩) ?_
  obtain rfl:=Option.some.inj h
  exact rR [(4,1000,0)] ⟨[(4,bx 1000 0)],[(1000,cb 0 36 4 (eExpr (Expr.mk 1 1 b0 [])))],1⟩ ⟨by kernel_rfl,rfl⟩
 refine WA_skip ?_
 refine Qgd hT 1 [0,1,4,13] [(13,po s_int a0)] ?_
 obtain ⟨x1,hx1,h⟩:=bsome h
 refine One' hT rfl (v_index s_int .opt a0 .i64 0 hx1) ?_
 refine Szd hT 2 [0,1,4,5] [(5,vi x1)] ?_
 refine Qgd hT 1 [0,1,4,5,16] [(16,vi x1)] ?_
 obtain ⟨r2,hr2,h⟩:=bsome h
 refine Pt' en12 (hand_Pick_ok hr2) ?_
 refine Szd hT 1 [0,1,4,5,6] [(6,vi r2)] ?_
 refine WA_seq ?_
 refine WA_block ?_
 refine WA_seq ?_
 obtain ⟨J5,hJ5,h⟩:=jsome h
 refine WA_join (fun s=>∃ (w3 : ByteArray),∃ (b4 : Bool),J5 w3 b4 = some r ∧ s = ⟨[(0,po s_int a0),(1,vi a1),(4,bx 4 0),(5,vi x1),(6,vi r2),(18,vb b4)],[(4,cb 0 36 4 (.agg [vi 0,vi 0,vw w3,vn]))],1⟩) ?_ ?_
 ·refine Rgd hT 3 [0,1,4,5,6,21] [(21,vb (decide (r2 < 5)))] ?_
  cases hb : (decide (r2 < 5) : Bool)
  ·replace h:=cfalse hb h
   refine Sg hT 4 [0,1,4,5,6,18] ⟨[(0,po s_int a0),(1,vi a1),(4,bx 4 0),(5,vi x1),(6,vi r2),(18,vb (decide (a1 > 5)))],[(4,cb 0 36 4 (.agg [vi 0,vi 0,vw b0,vn]))],1⟩ ?_
   exact oK [0,1,4,5,6,18] [(4,4,0)] ⟨b0,decide (a1 > 5),h,rfl⟩
  replace h:=ctrue hb h
  refine Sgd hT 4 [0,1,4,5,6,18] [(18,vb true)] ?_
  exact oK [0,1,4,5,6,18] [(4,4,0)] ⟨b0,true,h,rfl⟩
 subst hJ5
 rintro s ⟨w3,b4,h,rfl⟩
 refine Ci h (fun h=>?_) fun h=>?_
 ·refine Qgd hT 2 [4,26] [(26,vi (wr (x1.tdiv 16)))] ?_
  obtain ⟨r6,hr6,h⟩:=bsome h
  refine Pt' en45 (hand_plain_ok hr6) ?_
  refine Sz hT 2 [4] ⟨[(4,bx 4 0)],[(4,cb 0 36 4 (.agg [vi 2,vi 0,vw r6,vn]))],1⟩ ?_
  refine aW [4] ⟨[(4,bx 4 0)],[(4,cb 0 36 4 (.agg [vi 2,vi 0,vw r6,vn]))],1⟩ ?_
  refine WA_weak (wL [(4,bx 4 0)] [(4,cb 0 36 4 (eExpr (Expr.mk 2 0 r6 [])))] ⟨VLf.refl _,trivial⟩ ⟨rfl,.inr (.inl ⟨rfl,rfl,CLe.agg ⟨VLf.refl _,VLf.refl _,VLf.refl _,(VLe.f VLe.nil_opt rfl),trivial⟩,trivial⟩),trivial⟩) ?_
  obtain rfl:=Option.some.inj h
  exact rR [(4,1000,0)] ⟨[(4,bx 1000 0)],[(1000,cb 0 36 4 (eExpr (Expr.mk 2 0 r6 [])))],1⟩ ⟨by kernel_rfl,rfl⟩
 refine Qzd hT 3 [0,1,4,5,6,29] [(29,vb (decide (r2 < 8)))] ?_
 refine Ci h (fun h=>?_) fun h=>?_
 ·refine Qgd hT 2 [4,33] [(33,vi (wr (x1.tdiv 16)))] ?_
  obtain ⟨r7,hr7,h⟩:=bsome h
  refine Pt' en12 (hand_Pick_ok hr7) ?_
  refine Sz hT 2 [4] ⟨[(4,bx 4 0)],[(4,cb 0 36 4 (.agg [vi 1,vi r7,vw b0,vn]))],1⟩ ?_
  refine aW [4] ⟨[(4,bx 4 0)],[(4,cb 0 36 4 (.agg [vi 1,vi r7,vw b0,vn]))],1⟩ ?_
  refine WA_weak (wL [(4,bx 4 0)] [(4,cb 0 36 4 (eExpr (Expr.mk 1 r7 b0 [])))] ⟨VLf.refl _,trivial⟩ ⟨rfl,.inr (.inl ⟨rfl,rfl,CLe.agg ⟨VLf.refl _,VLf.refl _,VLf.refl _,(VLe.f VLe.nil_opt rfl),trivial⟩,trivial⟩),trivial⟩) ?_
  obtain rfl:=Option.some.inj h
  exact rR [(4,1000,0)] ⟨[(4,bx 1000 0)],[(1000,cb 0 36 4 (eExpr (Expr.mk 1 r7 b0 [])))],1⟩ ⟨by kernel_rfl,rfl⟩
 refine Qzd hT 3 [0,1,4,5,36] [(36,vb (r2 == 8))] ?_
 refine Ci h (fun h=>?_) fun h=>?_
 ·refine Qgd hT 1 [1,4,39] [(39,po s_int a0)] ?_
  obtain ⟨l8,hl8,h⟩:=bsome h
  refine One' hT rfl (v_slice s_int .opt a0 1 (ln a0) none l8 .opt hl8 (by intro y hy; cases hy)) ?_
  refine Sgd hT 2 [4,40,42] [(40,po s_int l8),(42,vi (wr (a1 + 1)))] ?_
  obtain ⟨r9,hr9,h⟩:=bsome h
  refine Pt' en53 ((ih _ (by omega)) hr9) ?_
  refine Sgd hT 0 [4,43] [(43,eExpr r9)] ?_
  refine One' hT rfl (ev_bslice s_Expr 44 [r9] (by kernel_rfl)) ?_
  refine Sg hT 0 [4,44] ⟨[(4,bx 4 0),(44,vs 44 1 s_Expr [r9])],[(44,⟨1,36,4,false,false,s_Expr.F [r9]⟩),(4,cb 0 36 4 (.agg [vi 0,vi 0,vw w3,vn]))],2⟩ ?_
  refine WO_weak (wF 44 1 ⟨1,36,4,false,false,s_Expr.F [r9]⟩ [(4,bx 4 0),(44,po s_Expr [r9])] [(4,cb 0 36 4 (.agg [vi 0,vi 0,vw w3,vn]))] ⟨rfl,.keep _,rfl,.hit true,trivial⟩ ⟨rfl,.inl rfl,trivial⟩) ?_
  refine Sz hT 2 [4] ⟨[(4,bx 4 0)],[(4,cb 0 36 4 (.agg [vi 3,vi 0,vw b0,po s_Expr [r9]]))],2⟩ ?_
  refine aW [4] ⟨[(4,bx 4 0)],[(4,cb 0 36 4 (.agg [vi 3,vi 0,vw b0,po s_Expr [r9]]))],2⟩ ?_
  refine WA_weak (wL [(4,bx 4 0)] [(4,cb 0 36 4 (eExpr (Expr.mk 3 0 b0 [r9])))] ⟨VLf.refl _,trivial⟩ ⟨rfl,.inr (.inl ⟨rfl,rfl,CLe.agg ⟨VLf.refl _,VLf.refl _,VLf.refl _,VLf.refl _,trivial⟩,trivial⟩),trivial⟩) ?_
  obtain rfl:=Option.some.inj h
  exact rR [(4,1000,0)] ⟨[(4,bx 1000 0)],[(1000,cb 0 36 4 (eExpr (Expr.mk 3 0 b0 [r9])))],1⟩ ⟨by kernel_rfl,rfl⟩
 refine WA_skip ?_
 refine Qgd hT 2 [0,1,4,47] [(47,vi (wr (x1.tdiv 16)))] ?_
 obtain ⟨r10,hr10,h⟩:=bsome h
 refine Pt' en12 (hand_Pick_ok hr10) ?_
 refine Szd hT 2 [0,1,4,7] [(7,vi (wr (4 + r10)))] ?_
 refine Qgd hT 1 [0,1,4,7,50] [(50,po s_int a0)] ?_
 refine One' hT rfl (v_len s_int .opt a0) ?_
 refine Szd hT 3 [0,1,4,7,8] [(8,vi (wr (1 + (wr ((ln a0).tdiv 2)))))] ?_
 refine WA_seq ?_
 refine WA_drawW hT hM (by kernel_rfl) ?_
 refine Ds 3 [(56,vi (wr (1 + (wr ((ln a0).tdiv 2))))),(55,po s_int a0),(54,vi (wr (4 + r10)))] [] [] ?_
 obtain ⟨l11,hl11,h⟩:=bsome h
 refine Dl rfl (v_slice s_int .opt a0 1 (wr (1 + (wr ((ln a0).tdiv 2)))) none l11 .opt hl11 (by intro y hy; cases hy)) ?_
 refine Dt (po s_int l11) ?_
 refine Ds 2 [(59,vi (wr (a1 + 1))),(58,vi a1)] [] [] ?_
 obtain ⟨r12,hr12,h⟩:=bsome h
 refine Dp [po s_int l11,vi (wr (a1 + 1))] (eExpr r12) en53 ((ih _ (by omega)) hr12) ?_
 refine Ds 2 [(62,vi (wr (1 + (wr ((ln a0).tdiv 2))))),(61,po s_int a0)] [] [] ?_
 obtain ⟨l13,hl13,h⟩:=bsome h
 refine Dl rfl (v_slice s_int .opt a0 (wr (1 + (wr ((ln a0).tdiv 2)))) (ln a0) none l13 .opt hl13 (by intro y hy; cases hy)) ?_
 refine Dt (po s_int l13) ?_
 refine Ds 2 [(65,vi (wr (a1 + 1))),(64,vi a1)] [] [] ?_
 obtain ⟨r14,hr14,h⟩:=bsome h
 refine Dp [po s_int l13,vi (wr (a1 + 1))] (eExpr r14) en53 ((ih _ (by omega)) hr14) ?_
 refine Dl rfl (ev_bsliceD s_Expr [r12,r14] (by kernel_rfl)) ?_
 refine Dt (.ps .full (s_Expr.F [r12,r14])) ?_
 refine Dh 2 [(68,.agg [vi (wr (4 + r10)),vi 0,vw b0,.ps .full (s_Expr.F [r12,r14])])] [(4,cb 0 36 4 (.agg [vi (wr (4 + r10)),vi 0,vw b0,.ps .full (s_Expr.F [r12,r14])]))] 1 [(15,[4])] [] ?_
 refine De ?_
 refine Wk_done ?_
 refine aW [4] ⟨[(4,bx 4 0)],[(4,cb 0 36 4 (.agg [vi (wr (4 + r10)),vi 0,vw b0,.ps .full (s_Expr.F [r12,r14])]))],1⟩ ?_
 refine WA_weak (wL [(4,bx 4 0)] [(4,cb 0 36 4 (eExpr (Expr.mk (wr (4 + r10)) 0 b0 [r12,r14])))] ⟨VLf.refl _,trivial⟩ ⟨rfl,.inr (.inl ⟨rfl,rfl,CLe.agg ⟨VLf.refl _,VLf.refl _,VLf.refl _,(VLe.f VLe.full_opt rfl),trivial⟩,trivial⟩),trivial⟩) ?_
 obtain rfl:=Option.some.inj h
 exact rR [(4,1000,0)] ⟨[(4,bx 1000 0)],[(1000,cb 0 36 4 (eExpr (Expr.mk (wr (4 + r10)) 0 b0 [r12,r14])))],1⟩ ⟨by kernel_rfl,rfl⟩
theorem hand_Expr_all (n : Nat) : hand_Expr_spec n:=by
 induction n using Nat.strongRecOn with
 | _ n ih=>exact hand_Expr_step n ih
theorem hand_Expr_ok {n : Nat} {a0 : List Int} {a1 : Int} {r : Expr} (h : hand_Expr n a0 a1 = some r) : PT Try.prog 53 [po s_int a0,vi a1] (eExpr r):=(hand_Expr_all n) h
theorem hand_short_ok {n : Nat} {a0 : Act} {r : Expr} (h : hand_short n a0 = some r) : PT Try.prog 46 [eAct a0] (eExpr r):=by
 unfold hand_short at h
 refine PT_bodyA hT Try.func46 rfl (by kernel_rfl) fun bad w=>?_
 refine Qz hT 2 [1,2] ⟨[(1,bx 1 0),(2,bx 2 1)],[(2,cb 1 36 4 (.agg [vi 0,vi 0,vw b0,vn])),(1,cb 0 73 5 (eAct a0))],2⟩ ?_
 refine Qzd hT 3 [2,3] [(3,po s_int a0.E)] ?_
 refine WA_seq ?_
 refine Qgd hT 1 [2,3,6] [(6,po s_int a0.E)] ?_
 refine One' hT rfl (v_len s_int .opt a0.E) ?_
 refine Szd hT 1 [2,3,8] [(8,vb (decide ((ln a0.E) > 3)))] ?_
 obtain ⟨J3,hJ3,h⟩:=jsome h
 refine WA_join (fun s=>∃ (w1 : ByteArray),∃ (l2 : List Int),J3 w1 l2 = some r ∧ s = ⟨[(2,bx 2 0),(3,po s_int l2)],[(2,cb 0 36 4 (.agg [vi 0,vi 0,vw w1,vn]))],1⟩) ?_ ?_
 ·refine Ci h (fun h=>?_) fun h=>?_
  ·refine Rgd hT 1 [2,9] [(9,po s_int a0.E)] ?_
   obtain ⟨l4,hl4,h⟩:=bsome h
   refine One' hT rfl (v_slice s_int .opt a0.E 0 3 none l4 .opt hl4 (by intro y hy; cases hy)) ?_
   refine Sgd hT 1 [2,3] [(3,po s_int l4)] ?_
   exact oK [2,3] [(2,2,0)] ⟨b0,l4,h,rfl⟩
  exact sK [2,3] [(2,2,0)] ⟨b0,a0.E,h,rfl⟩
 subst hJ3
 rintro s ⟨w1,l2,h,rfl⟩
 refine Qgd hT 1 [2,11] [(11,po s_int l2)] ?_
 obtain ⟨r5,hr5,h⟩:=bsome h
 refine Pt' en53 (hand_Expr_ok hr5) ?_
 refine Sz hT 1 [2] ⟨[(2,bx 2 0)],[(2,cb 0 36 4 (eExpr r5))],1⟩ ?_
 obtain rfl:=Option.some.inj h
 exact rK [2] [(2,1000,0)] ⟨[(2,bx 1000 0)],[(1000,cb 0 36 4 (eExpr r5))],1⟩ ⟨by kernel_rfl,rfl⟩
def hand_stmts_spec (n : Nat) : Prop:=(∀ {a0 : List Act} {a1 : Int} {a2 : Int} {r : (List Stmt) × (List Act)},hand_stmts n a0 a1 a2 = some r → GO Try.prog 25 [] [po s_Act a0,vi a1,vi a2] (.tup [vs 100 1 s_Stmt r.1,po s_Act r.2]) [(100,rb 1 s_Stmt r.1)])
theorem hand_stmts_step (n : Nat) (ih : ∀ m,m < n → hand_stmts_spec m) : ∀ {a0 : List Act} {a1 : Int} {a2 : Int} {r : (List Stmt) × (List Act)},hand_stmts n a0 a1 a2 = some r → GO Try.prog 25 [] [po s_Act a0,vi a1,vi a2] (.tup [vs 100 1 s_Stmt r.1,po s_Act r.2]) [(100,rb 1 s_Stmt r.1)]:=by
 intro a0 a1 a2 r h
 rcases n with _ | n
 ·rw [hand_stmts] at h; cases h
 rw [hand_stmts] at h
 refine GO_bodyA hT Try.func25 rfl [] (by kernel_rfl) fun bad w m=>?_
 refine Qzd hT 2 [0,1,2] [] ?_
 refine Qz hT 1 [0,1,2,8] ⟨[(0,po s_Act a0),(1,vi a1),(2,vi a2),(8,vn)],[],1⟩ ?_
 refine WA_seq ?_
 refine WA_block ?_
 refine aW [0,1,2,8] ⟨[(0,po s_Act a0),(1,vi a1),(2,vi a2),(8,vn)],[],1⟩ ?_
 refine WA_weak (wO 8 5000 39 11) ?_
 refine lK [0,1,2,8] [(5000,10008,1)] (fun k s=>∃ q,q ≤ k ∧ q ≤ n ∧ ∃ (l1 : List Act),∃ (l2 : List Stmt),hand_stmts_L0 q a0 a1 a2 l1 l2 = some r ∧ s = ⟨[(0,po s_Act l1),(1,vi a1),(2,vi a2),(8,vs 10008 1 s_Stmt l2)],[(10008,rb 1 s_Stmt l2)],2⟩) n ⟨n,Nat.le_refl _,Nat.le_refl _,a0,([] : List Stmt),h,rfl⟩ (by rintro s ⟨q,hq,_,l1,l2,h,_⟩; obtain rfl:=Nat.le_zero.1 hq; rw [hand_stmts_L0] at h; cases h) ?_
 clear h
 rintro k1 s ⟨q1,hk1,hn1,l1,l2,h,rfl⟩
 rcases q1 with _ | q1
 ·rw [hand_stmts_L0] at h; cases h
 rw [hand_stmts_L0] at h
 refine WA_seq ?_
 refine WA_seq ?_
 obtain ⟨J4,hJ4,h⟩:=jsome h
 refine WA_join (fun s=>∃ (b3 : Bool),J4 b3 = some r ∧ s = ⟨[(0,po s_Act l1),(1,vi a1),(2,vi a2),(8,vs 10008 1 s_Stmt l2),(20,vb b3)],[(10008,rb 1 s_Stmt l2)],2⟩) ?_ ?_
 ·refine Rgd hT 1 [0,1,2,8,12] [(12,vs 10008 1 s_Stmt l2)] ?_
  refine One' hT rfl (v_len_own s_Stmt 10008 1 true (rb 1 s_Stmt l2) l2) ?_
  refine Sg hT 3 [0,1,2,8,16] ⟨[(0,po s_Act l1),(1,vi a1),(2,vi a2),(8,vs 10008 1 s_Stmt l2),(16,vb (decide ((ln l2) < a1)))],[(10008,rb 1 s_Stmt l2)],2⟩ ?_
  cases hb : (decide ((ln l2) < a1) : Bool)
  ·replace h:=cfalse hb h
   refine Sgd hT 4 [0,1,2,8,20] [(20,vb false)] ?_
   exact oK [0,1,2,8,20] [(10008,10008,1)] ⟨false,h,rfl⟩
  replace h:=ctrue hb h
  refine Sgd hT 1 [0,1,2,8,16,17] [(17,po s_Act l1)] ?_
  refine One' hT rfl (v_len s_Act .opt l1) ?_
  refine Sgd hT 2 [0,1,2,8,20] [(20,vb (decide ((ln l1) > 0)))] ?_
  exact oK [0,1,2,8,20] [(10008,10008,1)] ⟨decide ((ln l1) > 0),h,rfl⟩
 subst hJ4
 rintro s ⟨b3,h,rfl⟩
 refine Ci h (fun h=>?_) fun h=>?_
 ·refine WA_skip ?_
  refine WA_block ?_
  refine Qgd hT 1 [0,1,2,8,21] [(21,po s_Act l1)] ?_
  obtain ⟨x5,hx5,h⟩:=bsome h
  refine One' hT rfl (v_index s_Act .opt l1 .i64 0 hx5) ?_
  refine Szh hT 3 [0,1,2,8,9] [(9,bx 9 2)] [(9,cb 2 73 5 (eAct x5)),(10008,rb 1 s_Stmt l2)] 3 ?_
  refine Qgd hT 1 [1,2,8,9,24] [(24,po s_Act l1)] ?_
  obtain ⟨l6,hl6,h⟩:=bsome h
  refine One' hT rfl (v_slice s_Act .opt l1 1 (ln l1) none l6 .opt hl6 (by intro y hy; cases hy)) ?_
  refine Szd hT 1 [0,1,2,8,9] [(0,po s_Act l6)] ?_
  refine Qzh hT 3 [0,1,2,8,9,10] [(10,bx 10 3)] [(10,cb 3 39 11 (.agg [vi 0,vw b0,vw b0,vi 0,vi 0,vi 0,vw b0,vn,vn,vn,vz c0])),(9,cb 2 73 5 (eAct x5)),(10008,rb 1 s_Stmt l2)] 4 ?_
  refine WA_seq ?_
  refine Qg hT 2 [0,1,2,8,9,10,28] ⟨[(0,po s_Act l6),(1,vi a1),(2,vi a2),(8,vs 10008 1 s_Stmt l2),(9,bx 9 2),(10,bx 10 3),(28,vi x5.What)],[(10,cb 3 39 11 (.agg [vi 0,vw b0,vw b0,vi 0,vi 0,vi 0,vw b0,vn,vn,vn,vz c0])),(9,cb 2 73 5 (eAct x5)),(10008,rb 1 s_Stmt l2)],4⟩ ?_
  obtain ⟨r7,hr7,h⟩:=bsome h
  refine Pt' en12 (hand_Pick_ok hr7) ?_
  refine Szd hT 1 [0,1,2,8,9,10,11] [(11,vi r7)] ?_
  obtain ⟨J19,hJ19,h⟩:=jsome h
  refine WA_join (fun s=>∃ (l8 : List Act),∃ (i9 : Int),∃ (w10 : ByteArray),∃ (w11 : ByteArray),∃ (i12 : Int),∃ (i13 : Int),∃ (i14 : Int),∃ (w15 : ByteArray),∃ (l16 : List Expr),∃ (l17 : List Stmt),∃ (l18 : List Stmt),J19 l8 i9 w10 w11 i12 i13 i14 w15 l16 l17 l18 = some r ∧ s = ⟨[(0,po s_Act l8),(1,vi a1),(2,vi a2),(8,vs 10008 1 s_Stmt l2),(10,bx 10 1)],[(10,cb 1 39 11 (.agg [vi i9,vw w10,vw w11,vi i12,vi i13,vi i14,vw w15,po s_Expr l16,vs 19510 1 s_Stmt l17,vs 20510 1 s_Stmt l18,vz c0])),(10008,rb 1 s_Stmt l2),(19510,rb 1 s_Stmt l17),(20510,rb 1 s_Stmt l18)],2⟩) ?_ ?_
  ·refine WA_block ?_
   refine Qzd hT 3 [0,1,2,8,9,10,11,35] [(35,vb (decide (r7 < 9)))] ?_
   refine Ci h (fun h=>?_) fun h=>?_
   ·refine Qzh hT 2 [0,1,2,8,9,10] [] [(10,cb 3 39 11 (.agg [vi 1,vw b0,vw b0,vi 0,vi 0,vi 0,vw b0,vn,vn,vn,vz c0])),(9,cb 2 73 5 (eAct x5)),(10008,rb 1 s_Stmt l2)] 4 ?_
    refine Qgd hT 2 [0,1,2,8,9,10,40] [(40,vi x5.A)] ?_
    obtain ⟨r20,hr20,h⟩:=bsome h
    refine Pt' en45 (hand_plain_ok hr20) ?_
    refine Szh hT 2 [0,1,2,8,9,10] [] [(10,cb 3 39 11 (.agg [vi 1,vw r20,vw b0,vi 0,vi 0,vi 0,vw b0,vn,vn,vn,vz c0])),(9,cb 2 73 5 (eAct x5)),(10008,rb 1 s_Stmt l2)] 4 ?_
    refine Rgd hT 1 [0,1,2,8,10,43] [(43,eAct x5)] ?_
    obtain ⟨r21,hr21,h⟩:=bsome h
    refine Pt' en46 (hand_short_ok hr21) ?_
    refine Sgh hT 2 [0,1,2,8,10] [] [(10,cb 3 39 11 (.agg [vi 1,vw r20,vw b0,vi 0,vi r21.Kind,vi r21.N,vw r21.Name,po s_Expr r21.Of,vn,vn,vz c0])),(9,cb 2 73 5 (eAct x5)),(10008,rb 1 s_Stmt l2)] 4 ?_
    refine oW [0,1,2,8,10] ⟨[(0,po s_Act l6),(1,vi a1),(2,vi a2),(8,vs 10008 1 s_Stmt l2),(10,bx 10 3)],[(10,cb 3 39 11 (.agg [vi 1,vw r20,vw b0,vi 0,vi r21.Kind,vi r21.N,vw r21.Name,po s_Expr r21.Of,vn,vn,vz c0])),(9,cb 2 73 5 (eAct x5)),(10008,rb 1 s_Stmt l2)],4⟩ ?_
    refine WO_weak (wOh 10 5000 8 (cb 3 39 11 (.agg [vi 1,vw r20,vw b0,vi 0,vi r21.Kind,vi r21.N,vw r21.Name,po s_Expr r21.Of,vn,vn,vz c0])) (.agg [vi 1,vw r20,vw b0,vi 0,vi r21.Kind,vi r21.N,vw r21.Name,po s_Expr r21.Of,vn,vn,vz c0]) (.agg [vi 1,vw r20,vw b0,vi 0,vi r21.Kind,vi r21.N,vw r21.Name,po s_Expr r21.Of,vs 5000 4 s_Stmt ([] : List Stmt),vn,vz c0]) 39 11) ?_
    refine WO_weak (wOh 10 5001 9 (cb 3 39 11 (.agg [vi 1,vw r20,vw b0,vi 0,vi r21.Kind,vi r21.N,vw r21.Name,po s_Expr r21.Of,vs 5000 4 s_Stmt ([] : List Stmt),vn,vz c0])) (.agg [vi 1,vw r20,vw b0,vi 0,vi r21.Kind,vi r21.N,vw r21.Name,po s_Expr r21.Of,vs 5000 4 s_Stmt ([] : List Stmt),vn,vz c0]) (.agg [vi 1,vw r20,vw b0,vi 0,vi r21.Kind,vi r21.N,vw r21.Name,po s_Expr r21.Of,vs 5000 4 s_Stmt ([] : List Stmt),vs 5001 5 s_Stmt ([] : List Stmt),vz c0]) 39 11) ?_
    exact oR [(10,10,1),(10008,10008,1),(5000,19510,1),(5001,20510,1)] ⟨l6,1,r20,b0,0,r21.Kind,r21.N,r21.Name,r21.Of,([] : List Stmt),([] : List Stmt),h,rfl⟩
   refine Qzd hT 3 [0,1,2,8,9,10,11,46] [(46,vb (decide (r7 < 11)))] ?_
   refine Ci h (fun h=>?_) fun h=>?_
   ·refine Qz hT 2 [0,1,2,8,10] ⟨[(0,po s_Act l6),(1,vi a1),(2,vi a2),(8,vs 10008 1 s_Stmt l2),(10,bx 10 3)],[(10,cb 3 39 11 (.agg [vi 2,vw b0,vw b0,vi 0,vi 0,vi 0,vw b0,vn,vn,vn,vz c0])),(9,cb 2 73 5 (eAct x5)),(10008,rb 1 s_Stmt l2)],4⟩ ?_
    refine Rgh hT 2 [0,1,2,8,10] [] [(10,cb 3 39 11 (.agg [vi 2,vw k_m,vw b0,vi 0,vi 0,vi 0,vw b0,vn,vn,vn,vz c0])),(9,cb 2 73 5 (eAct x5)),(10008,rb 1 s_Stmt l2)] 4 ?_
    refine oW [0,1,2,8,10] ⟨[(0,po s_Act l6),(1,vi a1),(2,vi a2),(8,vs 10008 1 s_Stmt l2),(10,bx 10 3)],[(10,cb 3 39 11 (.agg [vi 2,vw k_m,vw b0,vi 0,vi 0,vi 0,vw b0,vn,vn,vn,vz c0])),(9,cb 2 73 5 (eAct x5)),(10008,rb 1 s_Stmt l2)],4⟩ ?_
    refine WO_weak (wOh 10 5000 8 (cb 3 39 11 (.agg [vi 2,vw k_m,vw b0,vi 0,vi 0,vi 0,vw b0,vn,vn,vn,vz c0])) (.agg [vi 2,vw k_m,vw b0,vi 0,vi 0,vi 0,vw b0,vn,vn,vn,vz c0]) (.agg [vi 2,vw k_m,vw b0,vi 0,vi 0,vi 0,vw b0,vn,vs 5000 4 s_Stmt ([] : List Stmt),vn,vz c0]) 39 11) ?_
    refine WO_weak (wOh 10 5001 9 (cb 3 39 11 (.agg [vi 2,vw k_m,vw b0,vi 0,vi 0,vi 0,vw b0,vn,vs 5000 4 s_Stmt ([] : List Stmt),vn,vz c0])) (.agg [vi 2,vw k_m,vw b0,vi 0,vi 0,vi 0,vw b0,vn,vs 5000 4 s_Stmt ([] : List Stmt),vn,vz c0]) (.agg [vi 2,vw k_m,vw b0,vi 0,vi 0,vi 0,vw b0,vn,vs 5000 4 s_Stmt ([] : List Stmt),vs 5001 5 s_Stmt ([] : List Stmt),vz c0]) 39 11) ?_
    refine WO_weak (wL [(0,po s_Act l6),(1,vi a1),(2,vi a2),(8,vs 10008 1 s_Stmt l2),(10,bx 10 3)] [(5001,rb 5 s_Stmt ([] : List Stmt)),(10,cb 3 39 11 (.agg [vi 2,vw k_m,vw b0,vi 0,vi 0,vi 0,vw b0,po s_Expr [],vs 5000 4 s_Stmt ([] : List Stmt),vs 5001 5 s_Stmt ([] : List Stmt),vz c0])),(5000,rb 4 s_Stmt ([] : List Stmt)),(9,cb 2 73 5 (eAct x5)),(10008,rb 1 s_Stmt l2)] ⟨VLf.refl _,VLf.refl _,VLf.refl _,VLf.refl _,VLf.refl _,trivial⟩ ⟨rfl,.inl rfl,rfl,.inr (.inl ⟨rfl,rfl,CLe.agg ⟨VLf.refl _,VLf.refl _,VLf.refl _,VLf.refl _,VLf.refl _,VLf.refl _,VLf.refl _,(VLe.f VLe.nil_opt rfl),VLf.refl _,VLf.refl _,VLf.refl _,trivial⟩,trivial⟩),rfl,.inl rfl,rfl,.inl rfl,rfl,.inl rfl,trivial⟩) ?_
    exact oR [(10,10,1),(10008,10008,1),(5000,19510,1),(5001,20510,1)] ⟨l6,2,k_m,b0,0,0,0,b0,[],([] : List Stmt),([] : List Stmt),h,rfl⟩
   refine Qzd hT 3 [0,1,2,8,9,10,11,51] [(51,vb (decide (r7 < 13)))] ?_
   refine Ci h (fun h=>?_) fun h=>?_
   ·refine Qzh hT 2 [0,1,2,8,10] [] [(10,cb 3 39 11 (.agg [vi 3,vw b0,vw b0,vi 0,vi 0,vi 0,vw b0,vn,vn,vn,vz c0])),(9,cb 2 73 5 (eAct x5)),(10008,rb 1 s_Stmt l2)] 4 ?_
    refine Rgh hT 2 [0,1,2,8,10] [] [(10,cb 3 39 11 (.agg [vi 3,vw k_m,vw b0,vi 0,vi 0,vi 0,vw b0,vn,vn,vn,vz c0])),(9,cb 2 73 5 (eAct x5)),(10008,rb 1 s_Stmt l2)] 4 ?_
    refine oW [0,1,2,8,10] ⟨[(0,po s_Act l6),(1,vi a1),(2,vi a2),(8,vs 10008 1 s_Stmt l2),(10,bx 10 3)],[(10,cb 3 39 11 (.agg [vi 3,vw k_m,vw b0,vi 0,vi 0,vi 0,vw b0,vn,vn,vn,vz c0])),(9,cb 2 73 5 (eAct x5)),(10008,rb 1 s_Stmt l2)],4⟩ ?_
    refine WO_weak (wOh 10 5000 8 (cb 3 39 11 (.agg [vi 3,vw k_m,vw b0,vi 0,vi 0,vi 0,vw b0,vn,vn,vn,vz c0])) (.agg [vi 3,vw k_m,vw b0,vi 0,vi 0,vi 0,vw b0,vn,vn,vn,vz c0]) (.agg [vi 3,vw k_m,vw b0,vi 0,vi 0,vi 0,vw b0,vn,vs 5000 4 s_Stmt ([] : List Stmt),vn,vz c0]) 39 11) ?_
    refine WO_weak (wOh 10 5001 9 (cb 3 39 11 (.agg [vi 3,vw k_m,vw b0,vi 0,vi 0,vi 0,vw b0,vn,vs 5000 4 s_Stmt ([] : List Stmt),vn,vz c0])) (.agg [vi 3,vw k_m,vw b0,vi 0,vi 0,vi 0,vw b0,vn,vs 5000 4 s_Stmt ([] : List Stmt),vn,vz c0]) (.agg [vi 3,vw k_m,vw b0,vi 0,vi 0,vi 0,vw b0,vn,vs 5000 4 s_Stmt ([] : List Stmt),vs 5001 5 s_Stmt ([] : List Stmt),vz c0]) 39 11) ?_
    refine WO_weak (wL [(0,po s_Act l6),(1,vi a1),(2,vi a2),(8,vs 10008 1 s_Stmt l2),(10,bx 10 3)] [(5001,rb 5 s_Stmt ([] : List Stmt)),(10,cb 3 39 11 (.agg [vi 3,vw k_m,vw b0,vi 0,vi 0,vi 0,vw b0,po s_Expr [],vs 5000 4 s_Stmt ([] : List Stmt),vs 5001 5 s_Stmt ([] : List Stmt),vz c0])),(5000,rb 4 s_Stmt ([] : List Stmt)),(9,cb 2 73 5 (eAct x5)),(10008,rb 1 s_Stmt l2)] ⟨VLf.refl _,VLf.refl _,VLf.refl _,VLf.refl _,VLf.refl _,trivial⟩ ⟨rfl,.inl rfl,rfl,.inr (.inl ⟨rfl,rfl,CLe.agg ⟨VLf.refl _,VLf.refl _,VLf.refl _,VLf.refl _,VLf.refl _,VLf.refl _,VLf.refl _,(VLe.f VLe.nil_opt rfl),VLf.refl _,VLf.refl _,VLf.refl _,trivial⟩,trivial⟩),rfl,.inl rfl,rfl,.inl rfl,rfl,.inl rfl,trivial⟩) ?_
    exact oR [(10,10,1),(10008,10008,1),(5000,19510,1),(5001,20510,1)] ⟨l6,3,k_m,b0,0,0,0,b0,[],([] : List Stmt),([] : List Stmt),h,rfl⟩
   refine Qzd hT 3 [0,1,2,8,9,10,11,56] [(56,vb (decide (r7 < 15)))] ?_
   refine Ci h (fun h=>?_) fun h=>?_
   ·refine Qzh hT 2 [0,1,2,8,9,10] [] [(10,cb 3 39 11 (.agg [vi 4,vw b0,vw b0,vi 0,vi 0,vi 0,vw b0,vn,vn,vn,vz c0])),(9,cb 2 73 5 (eAct x5)),(10008,rb 1 s_Stmt l2)] 4 ?_
    refine Qgd hT 3 [0,1,2,8,9,10,60,62] [(60,.agg [vw k_c,vw k_d]),(62,vi x5.A)] ?_
    obtain ⟨r22,hr22,h⟩:=bsome h
    refine Pt' en12 (hand_Pick_ok hr22) ?_
    refine Sgd hT 0 [0,1,2,8,9,10,60,63] [(63,vi r22)] ?_
    obtain ⟨x23,hx23,h⟩:=bsome h
    refine One' hT rfl (v_indexA e_s [k_c,k_d] .i64 r22 _ _ 9 hx23) ?_
    refine Sz hT 2 [0,1,2,8,9,10] ⟨[(0,po s_Act l6),(1,vi a1),(2,vi a2),(8,vs 10008 1 s_Stmt l2),(9,bx 9 2),(10,bx 10 3)],[(10,cb 3 39 11 (.agg [vi 4,vw x23,vw b0,vi 0,vi 0,vi 0,vw b0,vn,vn,vn,vz c0])),(9,cb 2 73 5 (eAct x5)),(10008,rb 1 s_Stmt l2)],4⟩ ?_
    refine Rgd hT 1 [0,1,2,8,10,66] [(66,eAct x5)] ?_
    obtain ⟨r24,hr24,h⟩:=bsome h
    refine Pt' en46 (hand_short_ok hr24) ?_
    refine Sgh hT 2 [0,1,2,8,10] [] [(10,cb 3 39 11 (.agg [vi 4,vw x23,vw b0,vi 0,vi r24.Kind,vi r24.N,vw r24.Name,po s_Expr r24.Of,vn,vn,vz c0])),(9,cb 2 73 5 (eAct x5)),(10008,rb 1 s_Stmt l2)] 4 ?_
    refine oW [0,1,2,8,10] ⟨[(0,po s_Act l6),(1,vi a1),(2,vi a2),(8,vs 10008 1 s_Stmt l2),(10,bx 10 3)],[(10,cb 3 39 11 (.agg [vi 4,vw x23,vw b0,vi 0,vi r24.Kind,vi r24.N,vw r24.Name,po s_Expr r24.Of,vn,vn,vz c0])),(9,cb 2 73 5 (eAct x5)),(10008,rb 1 s_Stmt l2)],4⟩ ?_
    refine WO_weak (wOh 10 5000 8 (cb 3 39 11 (.agg [vi 4,vw x23,vw b0,vi 0,vi r24.Kind,vi r24.N,vw r24.Name,po s_Expr r24.Of,vn,vn,vz c0])) (.agg [vi 4,vw x23,vw b0,vi 0,vi r24.Kind,vi r24.N,vw r24.Name,po s_Expr r24.Of,vn,vn,vz c0]) (.agg [vi 4,vw x23,vw b0,vi 0,vi r24.Kind,vi r24.N,vw r24.Name,po s_Expr r24.Of,vs 5000 4 s_Stmt ([] : List Stmt),vn,vz c0]) 39 11) ?_
    refine WO_weak (wOh 10 5001 9 (cb 3 39 11 (.agg [vi 4,vw x23,vw b0,vi 0,vi r24.Kind,vi r24.N,vw r24.Name,po s_Expr r24.Of,vs 5000 4 s_Stmt ([] : List Stmt),vn,vz c0])) (.agg [vi 4,vw x23,vw b0,vi 0,vi r24.Kind,vi r24.N,vw r24.Name,po s_Expr r24.Of,vs 5000 4 s_Stmt ([] : List Stmt),vn,vz c0]) (.agg [vi 4,vw x23,vw b0,vi 0,vi r24.Kind,vi r24.N,vw r24.Name,po s_Expr r24.Of,vs 5000 4 s_Stmt ([] : List Stmt),vs 5001 5 s_Stmt ([] : List Stmt),vz c0]) 39 11) ?_
    exact oR [(10,10,1),(10008,10008,1),(5000,19510,1),(5001,20510,1)] ⟨l6,4,x23,b0,0,r24.Kind,r24.N,r24.Name,r24.Of,([] : List Stmt),([] : List Stmt),h,rfl⟩
   refine Qzd hT 3 [0,1,2,8,9,10,11,69] [(69,vb (decide (r7 < 17)))] ?_
   refine Ci h (fun h=>?_) fun h=>?_
   ·refine Qzh hT 2 [0,1,2,8,9,10] [] [(10,cb 3 39 11 (.agg [vi 5,vw b0,vw b0,vi 0,vi 0,vi 0,vw b0,vn,vn,vn,vz c0])),(9,cb 2 73 5 (eAct x5)),(10008,rb 1 s_Stmt l2)] 4 ?_
    refine Qgd hT 3 [0,1,2,8,9,10,73,75] [(73,.agg [vw k_c,vw k_d]),(75,vi x5.A)] ?_
    obtain ⟨r25,hr25,h⟩:=bsome h
    refine Pt' en12 (hand_Pick_ok hr25) ?_
    refine Sgd hT 0 [0,1,2,8,9,10,73,76] [(76,vi r25)] ?_
    obtain ⟨x26,hx26,h⟩:=bsome h
    refine One' hT rfl (v_indexA e_s [k_c,k_d] .i64 r25 _ _ 9 hx26) ?_
    refine Szh hT 2 [0,1,2,8,9,10] [] [(10,cb 3 39 11 (.agg [vi 5,vw x26,vw b0,vi 0,vi 0,vi 0,vw b0,vn,vn,vn,vz c0])),(9,cb 2 73 5 (eAct x5)),(10008,rb 1 s_Stmt l2)] 4 ?_
    refine Rgd hT 2 [0,1,2,8,10,80] [(80,vi x5.B)] ?_
    obtain ⟨r27,hr27,h⟩:=bsome h
    refine Pt' en45 (hand_plain_ok hr27) ?_
    refine Sg hT 2 [0,1,2,8,10] ⟨[(0,po s_Act l6),(1,vi a1),(2,vi a2),(8,vs 10008 1 s_Stmt l2),(10,bx 10 3)],[(10,cb 3 39 11 (.agg [vi 5,vw x26,vw r27,vi 0,vi 0,vi 0,vw b0,vn,vn,vn,vz c0])),(9,cb 2 73 5 (eAct x5)),(10008,rb 1 s_Stmt l2)],4⟩ ?_
    refine oW [0,1,2,8,10] ⟨[(0,po s_Act l6),(1,vi a1),(2,vi a2),(8,vs 10008 1 s_Stmt l2),(10,bx 10 3)],[(10,cb 3 39 11 (.agg [vi 5,vw x26,vw r27,vi 0,vi 0,vi 0,vw b0,vn,vn,vn,vz c0])),(9,cb 2 73 5 (eAct x5)),(10008,rb 1 s_Stmt l2)],4⟩ ?_
    refine WO_weak (wOh 10 5000 8 (cb 3 39 11 (.agg [vi 5,vw x26,vw r27,vi 0,vi 0,vi 0,vw b0,vn,vn,vn,vz c0])) (.agg [vi 5,vw x26,vw r27,vi 0,vi 0,vi 0,vw b0,vn,vn,vn,vz c0]) (.agg [vi 5,vw x26,vw r27,vi 0,vi 0,vi 0,vw b0,vn,vs 5000 4 s_Stmt ([] : List Stmt),vn,vz c0]) 39 11) ?_
    refine WO_weak (wOh 10 5001 9 (cb 3 39 11 (.agg [vi 5,vw x26,vw r27,vi 0,vi 0,vi 0,vw b0,vn,vs 5000 4 s_Stmt ([] : List Stmt),vn,vz c0])) (.agg [vi 5,vw x26,vw r27,vi 0,vi 0,vi 0,vw b0,vn,vs 5000 4 s_Stmt ([] : List Stmt),vn,vz c0]) (.agg [vi 5,vw x26,vw r27,vi 0,vi 0,vi 0,vw b0,vn,vs 5000 4 s_Stmt ([] : List Stmt),vs 5001 5 s_Stmt ([] : List Stmt),vz c0]) 39 11) ?_
    refine WO_weak (wL [(0,po s_Act l6),(1,vi a1),(2,vi a2),(8,vs 10008 1 s_Stmt l2),(10,bx 10 3)] [(5001,rb 5 s_Stmt ([] : List Stmt)),(10,cb 3 39 11 (.agg [vi 5,vw x26,vw r27,vi 0,vi 0,vi 0,vw b0,po s_Expr [],vs 5000 4 s_Stmt ([] : List Stmt),vs 5001 5 s_Stmt ([] : List Stmt),vz c0])),(5000,rb 4 s_Stmt ([] : List Stmt)),(9,cb 2 73 5 (eAct x5)),(10008,rb 1 s_Stmt l2)] ⟨VLf.refl _,VLf.refl _,VLf.refl _,VLf.refl _,VLf.refl _,trivial⟩ ⟨rfl,.inl rfl,rfl,.inr (.inl ⟨rfl,rfl,CLe.agg ⟨VLf.refl _,VLf.refl _,VLf.refl _,VLf.refl _,VLf.refl _,VLf.refl _,VLf.refl _,(VLe.f VLe.nil_opt rfl),VLf.refl _,VLf.refl _,VLf.refl _,trivial⟩,trivial⟩),rfl,.inl rfl,rfl,.inl rfl,rfl,.inl rfl,trivial⟩) ?_
    exact oR [(10,10,1),(10008,10008,1),(5000,19510,1),(5001,20510,1)] ⟨l6,5,x26,r27,0,0,0,b0,[],([] : List Stmt),([] : List Stmt),h,rfl⟩
   refine Qzd hT 3 [0,1,2,8,9,10,11,83] [(83,vb (decide (r7 < 18)))] ?_
   refine Ci h (fun h=>?_) fun h=>?_
   ·refine Qzh hT 2 [0,1,2,8,9,10] [] [(10,cb 3 39 11 (.agg [vi 6,vw b0,vw b0,vi 0,vi 0,vi 0,vw b0,vn,vn,vn,vz c0])),(9,cb 2 73 5 (eAct x5)),(10008,rb 1 s_Stmt l2)] 4 ?_
    refine Rgd hT 1 [0,1,2,8,10,87] [(87,eAct x5)] ?_
    obtain ⟨r28,hr28,h⟩:=bsome h
    refine Pt' en46 (hand_short_ok hr28) ?_
    refine Sgh hT 2 [0,1,2,8,10] [] [(10,cb 3 39 11 (.agg [vi 6,vw b0,vw b0,vi 0,vi r28.Kind,vi r28.N,vw r28.Name,po s_Expr r28.Of,vn,vn,vz c0])),(9,cb 2 73 5 (eAct x5)),(10008,rb 1 s_Stmt l2)] 4 ?_
    refine oW [0,1,2,8,10] ⟨[(0,po s_Act l6),(1,vi a1),(2,vi a2),(8,vs 10008 1 s_Stmt l2),(10,bx 10 3)],[(10,cb 3 39 11 (.agg [vi 6,vw b0,vw b0,vi 0,vi r28.Kind,vi r28.N,vw r28.Name,po s_Expr r28.Of,vn,vn,vz c0])),(9,cb 2 73 5 (eAct x5)),(10008,rb 1 s_Stmt l2)],4⟩ ?_
    refine WO_weak (wOh 10 5000 8 (cb 3 39 11 (.agg [vi 6,vw b0,vw b0,vi 0,vi r28.Kind,vi r28.N,vw r28.Name,po s_Expr r28.Of,vn,vn,vz c0])) (.agg [vi 6,vw b0,vw b0,vi 0,vi r28.Kind,vi r28.N,vw r28.Name,po s_Expr r28.Of,vn,vn,vz c0]) (.agg [vi 6,vw b0,vw b0,vi 0,vi r28.Kind,vi r28.N,vw r28.Name,po s_Expr r28.Of,vs 5000 4 s_Stmt ([] : List Stmt),vn,vz c0]) 39 11) ?_
    refine WO_weak (wOh 10 5001 9 (cb 3 39 11 (.agg [vi 6,vw b0,vw b0,vi 0,vi r28.Kind,vi r28.N,vw r28.Name,po s_Expr r28.Of,vs 5000 4 s_Stmt ([] : List Stmt),vn,vz c0])) (.agg [vi 6,vw b0,vw b0,vi 0,vi r28.Kind,vi r28.N,vw r28.Name,po s_Expr r28.Of,vs 5000 4 s_Stmt ([] : List Stmt),vn,vz c0]) (.agg [vi 6,vw b0,vw b0,vi 0,vi r28.Kind,vi r28.N,vw r28.Name,po s_Expr r28.Of,vs 5000 4 s_Stmt ([] : List Stmt),vs 5001 5 s_Stmt ([] : List Stmt),vz c0]) 39 11) ?_
    exact oR [(10,10,1),(10008,10008,1),(5000,19510,1),(5001,20510,1)] ⟨l6,6,b0,b0,0,r28.Kind,r28.N,r28.Name,r28.Of,([] : List Stmt),([] : List Stmt),h,rfl⟩
   refine WA_seq ?_
   obtain ⟨J33,hJ33,h⟩:=jsome h
   refine WA_join (fun s=>∃ (w29 : ByteArray),∃ (w30 : ByteArray),∃ (w31 : ByteArray),∃ (b32 : Bool),J33 w29 w30 w31 b32 = some r ∧ s = ⟨[(0,po s_Act l6),(1,vi a1),(2,vi a2),(8,vs 10008 1 s_Stmt l2),(9,bx 9 1),(10,bx 10 1),(11,vi r7),(90,vb b32)],[(9,cb 1 73 5 (eAct x5)),(10,cb 1 39 11 (.agg [vi 0,vw w29,vw w30,vi 0,vi 0,vi 0,vw w31,vn,vn,vn,vz c0])),(10008,rb 1 s_Stmt l2)],2⟩) ?_ ?_
   ·refine Rgd hT 3 [0,1,2,8,9,10,11,93] [(93,vb (decide (r7 < 20)))] ?_
    cases hb : (decide (r7 < 20) : Bool)
    ·replace h:=cfalse hb h
     refine Sg hT 4 [0,1,2,8,9,10,11,90] ⟨[(0,po s_Act l6),(1,vi a1),(2,vi a2),(8,vs 10008 1 s_Stmt l2),(9,bx 9 2),(10,bx 10 3),(11,vi r7),(90,vb false)],[(10,cb 3 39 11 (.agg [vi 0,vw b0,vw b0,vi 0,vi 0,vi 0,vw b0,vn,vn,vn,vz c0])),(9,cb 2 73 5 (eAct x5)),(10008,rb 1 s_Stmt l2)],4⟩ ?_
     exact oK [0,1,2,8,9,10,11,90] [(9,9,1),(10,10,1),(10008,10008,1)] ⟨b0,b0,b0,false,h,rfl⟩
    replace h:=ctrue hb h
    refine Sgd hT 4 [0,1,2,8,9,10,11,90] [(90,vb (decide (a2 < 3)))] ?_
    exact oK [0,1,2,8,9,10,11,90] [(9,9,1),(10,10,1),(10008,10008,1)] ⟨b0,b0,b0,decide (a2 < 3),h,rfl⟩
   subst hJ33
   rintro s ⟨w29,w30,w31,b32,h,rfl⟩
   skip
   refine Ci h (fun h=>?_) fun h=>?_
   ·refine Qzh hT 2 [0,1,2,8,9,10] [] [(10,cb 1 39 11 (.agg [vi 7,vw w29,vw w30,vi 0,vi 0,vi 0,vw w31,vn,vn,vn,vz c0])),(9,cb 1 73 5 (eAct x5)),(10008,rb 1 s_Stmt l2)] 2 ?_
    refine Qgd hT 1 [0,1,2,8,9,10,98] [(98,eAct x5)] ?_
    obtain ⟨r34,hr34,h⟩:=bsome h
    refine Pt' en46 (hand_short_ok hr34) ?_
    refine Szh hT 2 [0,1,2,8,9,10] [] [(10,cb 1 39 11 (.agg [vi 7,vw w29,vw w30,vi 0,vi r34.Kind,vi r34.N,vw r34.Name,po s_Expr r34.Of,vn,vn,vz c0])),(9,cb 1 73 5 (eAct x5)),(10008,rb 1 s_Stmt l2)] 2 ?_
    refine Qgd hT 3 [1,2,8,9,10,102,104] [(102,po s_Act l6),(104,vi x5.A)] ?_
    obtain ⟨r35,hr35,h⟩:=bsome h
    refine Pt' en12 (hand_Pick_ok hr35) ?_
    refine Sgd hT 3 [1,2,8,9,10,102,106,108] [(106,vi (wr (1 + r35))),(108,vi (wr (a2 + 1)))] ?_
    obtain ⟨r36,hr36,h⟩:=bsome h
    refine Og [] [(100,rb 1 s_Stmt r36.1)] [po s_Act l6,vi (wr (1 + r35)),vi (wr (a2 + 1))] [po s_Act l6,vi (wr (1 + r35)),vi (wr (a2 + 1))] [] [(100,109,2)] [(109,rb 2 s_Stmt r36.1)] (.tup [vs 100 1 s_Stmt r36.1,po s_Act r36.2]) (.tup [vs 109 2 s_Stmt r36.1,po s_Act r36.2]) 3 en25 ((ih _ (by omega)) hr36) ?_
    refine Szh hT 6 [0,1,2,8,9,10] [(0,po s_Act r36.2)] [(10,cb 1 39 11 (.agg [vi 7,vw w29,vw w30,vi 0,vi r34.Kind,vi r34.N,vw r34.Name,po s_Expr r34.Of,vs 109 2 s_Stmt r36.1,vn,vz c0])),(109,rb 2 s_Stmt r36.1),(9,cb 1 73 5 (eAct x5)),(10008,rb 1 s_Stmt l2)] 3 ?_
    refine Qzd hT 4 [0,1,2,8,9,10,116] [(116,vb ((x5.B.tmod 3) == 0))] ?_
    refine Ci h (fun h=>?_) fun h=>?_
    ·refine Rg hT 3 [1,2,8,10,118,120] ⟨[(1,vi a1),(2,vi a2),(8,vs 10008 1 s_Stmt l2),(10,bx 10 1),(118,po s_Act r36.2),(120,vi x5.N)],[(10,cb 1 39 11 (.agg [vi 7,vw w29,vw w30,vi 0,vi r34.Kind,vi r34.N,vw r34.Name,po s_Expr r34.Of,vs 109 2 s_Stmt r36.1,vn,vz c0])),(109,rb 2 s_Stmt r36.1),(9,cb 1 73 5 (eAct x5)),(10008,rb 1 s_Stmt l2)],3⟩ ?_
     obtain ⟨r37,hr37,h⟩:=bsome h
     refine Pt' en12 (hand_Pick_ok hr37) ?_
     refine Sgd hT 3 [1,2,8,10,118,122,124] [(122,vi (wr (1 + r37))),(124,vi (wr (a2 + 1)))] ?_
     obtain ⟨r38,hr38,h⟩:=bsome h
     refine Og [] [(100,rb 1 s_Stmt r38.1)] [po s_Act r36.2,vi (wr (1 + r37)),vi (wr (a2 + 1))] [po s_Act r36.2,vi (wr (1 + r37)),vi (wr (a2 + 1))] [] [(100,125,3)] [(125,rb 3 s_Stmt r38.1)] (.tup [vs 100 1 s_Stmt r38.1,po s_Act r38.2]) (.tup [vs 125 3 s_Stmt r38.1,po s_Act r38.2]) 4 en25 ((ih _ (by omega)) hr38) ?_
     refine Sgh hT 6 [0,1,2,8,10] [(0,po s_Act r38.2)] [(10,cb 1 39 11 (.agg [vi 7,vw w29,vw w30,vi 0,vi r34.Kind,vi r34.N,vw r34.Name,po s_Expr r34.Of,vs 109 2 s_Stmt r36.1,vs 125 3 s_Stmt r38.1,vz c0])),(125,rb 3 s_Stmt r38.1),(109,rb 2 s_Stmt r36.1),(9,cb 1 73 5 (eAct x5)),(10008,rb 1 s_Stmt l2)] 4 ?_
     exact oK [0,1,2,8,10] [(10,10,1),(10008,10008,1),(109,19510,1),(125,20510,1)] ⟨r38.2,7,w29,w30,0,r34.Kind,r34.N,r34.Name,r34.Of,r36.1,r38.1,h,rfl⟩
    refine aW [0,1,2,8,10] ⟨[(0,po s_Act r36.2),(1,vi a1),(2,vi a2),(8,vs 10008 1 s_Stmt l2),(10,bx 10 1)],[(10,cb 1 39 11 (.agg [vi 7,vw w29,vw w30,vi 0,vi r34.Kind,vi r34.N,vw r34.Name,po s_Expr r34.Of,vs 109 2 s_Stmt r36.1,vn,vz c0])),(109,rb 2 s_Stmt r36.1),(9,cb 1 73 5 (eAct x5)),(10008,rb 1 s_Stmt l2)],3⟩ ?_
    refine WA_weak (wOh 10 5000 9 (cb 1 39 11 (.agg [vi 7,vw w29,vw w30,vi 0,vi r34.Kind,vi r34.N,vw r34.Name,po s_Expr r34.Of,vs 109 2 s_Stmt r36.1,vn,vz c0])) (.agg [vi 7,vw w29,vw w30,vi 0,vi r34.Kind,vi r34.N,vw r34.Name,po s_Expr r34.Of,vs 109 2 s_Stmt r36.1,vn,vz c0]) (.agg [vi 7,vw w29,vw w30,vi 0,vi r34.Kind,vi r34.N,vw r34.Name,po s_Expr r34.Of,vs 109 2 s_Stmt r36.1,vs 5000 3 s_Stmt ([] : List Stmt),vz c0]) 39 11) ?_
    exact sR [(10,10,1),(10008,10008,1),(109,19510,1),(5000,20510,1)] ⟨r36.2,7,w29,w30,0,r34.Kind,r34.N,r34.Name,r34.Of,r36.1,([] : List Stmt),h,rfl⟩
   refine WA_seq ?_
   obtain ⟨J40,hJ40,h⟩:=jsome h
   refine WA_join (fun s=>∃ (b39 : Bool),J40 b39 = some r ∧ s = ⟨[(0,po s_Act l6),(1,vi a1),(2,vi a2),(8,vs 10008 1 s_Stmt l2),(9,bx 9 1),(10,bx 10 1),(11,vi r7),(129,vb b39)],[(9,cb 1 73 5 (eAct x5)),(10,cb 1 39 11 (.agg [vi 0,vw w29,vw w30,vi 0,vi 0,vi 0,vw w31,vn,vn,vn,vz c0])),(10008,rb 1 s_Stmt l2)],2⟩) ?_ ?_
   ·refine Rgd hT 3 [0,1,2,8,9,10,11,132] [(132,vb (decide (r7 < 21)))] ?_
    cases hb : (decide (r7 < 21) : Bool)
    ·replace h:=cfalse hb h
     refine Sgd hT 4 [0,1,2,8,9,10,11,129] [(129,vb false)] ?_
     exact oK [0,1,2,8,9,10,11,129] [(9,9,1),(10,10,1),(10008,10008,1)] ⟨false,h,rfl⟩
    replace h:=ctrue hb h
    refine Sgd hT 4 [0,1,2,8,9,10,11,129] [(129,vb (decide (a2 < 3)))] ?_
    exact oK [0,1,2,8,9,10,11,129] [(9,9,1),(10,10,1),(10008,10008,1)] ⟨decide (a2 < 3),h,rfl⟩
   subst hJ40
   rintro s ⟨b39,h,rfl⟩
   skip
   refine Ci h (fun h=>?_) fun h=>?_
   ·refine Qz hT 2 [0,1,2,8,9,10] ⟨[(0,po s_Act l6),(1,vi a1),(2,vi a2),(8,vs 10008 1 s_Stmt l2),(9,bx 9 1),(10,bx 10 1)],[(10,cb 1 39 11 (.agg [vi 8,vw w29,vw w30,vi 0,vi 0,vi 0,vw w31,vn,vn,vn,vz c0])),(9,cb 1 73 5 (eAct x5)),(10008,rb 1 s_Stmt l2)],2⟩ ?_
    refine Qgd hT 2 [0,1,2,8,9,10,138] [(138,vi x5.N)] ?_
    obtain ⟨r41,hr41,h⟩:=bsome h
    refine Pt' en12 (hand_Pick_ok hr41) ?_
    refine Szh hT 2 [0,1,2,8,9,10] [] [(10,cb 1 39 11 (.agg [vi 8,vw w29,vw w30,vi r41,vi 0,vi 0,vw w31,vn,vn,vn,vz c0])),(9,cb 1 73 5 (eAct x5)),(10008,rb 1 s_Stmt l2)] 2 ?_
    refine Rgd hT 3 [1,2,8,10,142,144] [(142,po s_Act l6),(144,vi x5.A)] ?_
    obtain ⟨r42,hr42,h⟩:=bsome h
    refine Pt' en12 (hand_Pick_ok hr42) ?_
    refine Sgd hT 3 [1,2,8,10,142,146,148] [(146,vi (wr (1 + r42))),(148,vi (wr (a2 + 1)))] ?_
    obtain ⟨r43,hr43,h⟩:=bsome h
    refine Og [] [(100,rb 1 s_Stmt r43.1)] [po s_Act l6,vi (wr (1 + r42)),vi (wr (a2 + 1))] [po s_Act l6,vi (wr (1 + r42)),vi (wr (a2 + 1))] [] [(100,149,2)] [(149,rb 2 s_Stmt r43.1)] (.tup [vs 100 1 s_Stmt r43.1,po s_Act r43.2]) (.tup [vs 149 2 s_Stmt r43.1,po s_Act r43.2]) 3 en25 ((ih _ (by omega)) hr43) ?_
    refine Sgh hT 6 [0,1,2,8,10] [(0,po s_Act r43.2)] [(10,cb 1 39 11 (.agg [vi 8,vw w29,vw w30,vi r41,vi 0,vi 0,vw w31,vn,vs 149 2 s_Stmt r43.1,vn,vz c0])),(149,rb 2 s_Stmt r43.1),(9,cb 1 73 5 (eAct x5)),(10008,rb 1 s_Stmt l2)] 3 ?_
    refine oW [0,1,2,8,10] ⟨[(0,po s_Act r43.2),(1,vi a1),(2,vi a2),(8,vs 10008 1 s_Stmt l2),(10,bx 10 1)],[(10,cb 1 39 11 (.agg [vi 8,vw w29,vw w30,vi r41,vi 0,vi 0,vw w31,vn,vs 149 2 s_Stmt r43.1,vn,vz c0])),(149,rb 2 s_Stmt r43.1),(9,cb 1 73 5 (eAct x5)),(10008,rb 1 s_Stmt l2)],3⟩ ?_
    refine WO_weak (wOh 10 5000 9 (cb 1 39 11 (.agg [vi 8,vw w29,vw w30,vi r41,vi 0,vi 0,vw w31,vn,vs 149 2 s_Stmt r43.1,vn,vz c0])) (.agg [vi 8,vw w29,vw w30,vi r41,vi 0,vi 0,vw w31,vn,vs 149 2 s_Stmt r43.1,vn,vz c0]) (.agg [vi 8,vw w29,vw w30,vi r41,vi 0,vi 0,vw w31,vn,vs 149 2 s_Stmt r43.1,vs 5000 3 s_Stmt ([] : List Stmt),vz c0]) 39 11) ?_
    refine WO_weak (wL [(0,po s_Act r43.2),(1,vi a1),(2,vi a2),(8,vs 10008 1 s_Stmt l2),(10,bx 10 1)] [(5000,rb 3 s_Stmt ([] : List Stmt)),(10,cb 1 39 11 (.agg [vi 8,vw w29,vw w30,vi r41,vi 0,vi 0,vw w31,po s_Expr [],vs 149 2 s_Stmt r43.1,vs 5000 3 s_Stmt ([] : List Stmt),vz c0])),(149,rb 2 s_Stmt r43.1),(9,cb 1 73 5 (eAct x5)),(10008,rb 1 s_Stmt l2)] ⟨VLf.refl _,VLf.refl _,VLf.refl _,VLf.refl _,VLf.refl _,trivial⟩ ⟨rfl,.inl rfl,rfl,.inr (.inl ⟨rfl,rfl,CLe.agg ⟨VLf.refl _,VLf.refl _,VLf.refl _,VLf.refl _,VLf.refl _,VLf.refl _,VLf.refl _,(VLe.f VLe.nil_opt rfl),VLf.refl _,VLf.refl _,VLf.refl _,trivial⟩,trivial⟩),rfl,.inl rfl,rfl,.inl rfl,rfl,.inl rfl,trivial⟩) ?_
    exact oR [(10,10,1),(10008,10008,1),(149,19510,1),(5000,20510,1)] ⟨r43.2,8,w29,w30,r41,0,0,w31,[],r43.1,([] : List Stmt),h,rfl⟩
   refine Qzd hT 3 [0,1,2,8,9,10,11,153] [(153,vb (decide (r7 < 22)))] ?_
   refine Ci h (fun h=>?_) fun h=>?_
   ·refine Qzh hT 2 [0,1,2,8,9,10] [] [(10,cb 1 39 11 (.agg [vi 9,vw w29,vw w30,vi 0,vi 0,vi 0,vw w31,vn,vn,vn,vz c0])),(9,cb 1 73 5 (eAct x5)),(10008,rb 1 s_Stmt l2)] 2 ?_
    refine Rgd hT 3 [0,1,2,8,10,157,159] [(157,.agg [vw k_l,vw k_k]),(159,vi x5.A)] ?_
    obtain ⟨r44,hr44,h⟩:=bsome h
    refine Pt' en12 (hand_Pick_ok hr44) ?_
    refine Sg hT 0 [0,1,2,8,10,157,160] ⟨[(0,po s_Act l6),(1,vi a1),(2,vi a2),(8,vs 10008 1 s_Stmt l2),(10,bx 10 1),(157,.agg [vw k_l,vw k_k]),(160,vi r44)],[(10,cb 1 39 11 (.agg [vi 9,vw w29,vw w30,vi 0,vi 0,vi 0,vw w31,vn,vn,vn,vz c0])),(9,cb 1 73 5 (eAct x5)),(10008,rb 1 s_Stmt l2)],2⟩ ?_
    obtain ⟨x45,hx45,h⟩:=bsome h
    refine One' hT rfl (v_indexA e_s [k_l,k_k] .i64 r44 _ _ 9 hx45) ?_
    refine Sgh hT 2 [0,1,2,8,10] [] [(10,cb 1 39 11 (.agg [vi 9,vw x45,vw w30,vi 0,vi 0,vi 0,vw w31,vn,vn,vn,vz c0])),(9,cb 1 73 5 (eAct x5)),(10008,rb 1 s_Stmt l2)] 2 ?_
    refine oW [0,1,2,8,10] ⟨[(0,po s_Act l6),(1,vi a1),(2,vi a2),(8,vs 10008 1 s_Stmt l2),(10,bx 10 1)],[(10,cb 1 39 11 (.agg [vi 9,vw x45,vw w30,vi 0,vi 0,vi 0,vw w31,vn,vn,vn,vz c0])),(9,cb 1 73 5 (eAct x5)),(10008,rb 1 s_Stmt l2)],2⟩ ?_
    refine WO_weak (wOh 10 5000 8 (cb 1 39 11 (.agg [vi 9,vw x45,vw w30,vi 0,vi 0,vi 0,vw w31,vn,vn,vn,vz c0])) (.agg [vi 9,vw x45,vw w30,vi 0,vi 0,vi 0,vw w31,vn,vn,vn,vz c0]) (.agg [vi 9,vw x45,vw w30,vi 0,vi 0,vi 0,vw w31,vn,vs 5000 2 s_Stmt ([] : List Stmt),vn,vz c0]) 39 11) ?_
    refine WO_weak (wOh 10 5001 9 (cb 1 39 11 (.agg [vi 9,vw x45,vw w30,vi 0,vi 0,vi 0,vw w31,vn,vs 5000 2 s_Stmt ([] : List Stmt),vn,vz c0])) (.agg [vi 9,vw x45,vw w30,vi 0,vi 0,vi 0,vw w31,vn,vs 5000 2 s_Stmt ([] : List Stmt),vn,vz c0]) (.agg [vi 9,vw x45,vw w30,vi 0,vi 0,vi 0,vw w31,vn,vs 5000 2 s_Stmt ([] : List Stmt),vs 5001 3 s_Stmt ([] : List Stmt),vz c0]) 39 11) ?_
    refine WO_weak (wL [(0,po s_Act l6),(1,vi a1),(2,vi a2),(8,vs 10008 1 s_Stmt l2),(10,bx 10 1)] [(5001,rb 3 s_Stmt ([] : List Stmt)),(10,cb 1 39 11 (.agg [vi 9,vw x45,vw w30,vi 0,vi 0,vi 0,vw w31,po s_Expr [],vs 5000 2 s_Stmt ([] : List Stmt),vs 5001 3 s_Stmt ([] : List Stmt),vz c0])),(5000,rb 2 s_Stmt ([] : List Stmt)),(9,cb 1 73 5 (eAct x5)),(10008,rb 1 s_Stmt l2)] ⟨VLf.refl _,VLf.refl _,VLf.refl _,VLf.refl _,VLf.refl _,trivial⟩ ⟨rfl,.inl rfl,rfl,.inr (.inl ⟨rfl,rfl,CLe.agg ⟨VLf.refl _,VLf.refl _,VLf.refl _,VLf.refl _,VLf.refl _,VLf.refl _,VLf.refl _,(VLe.f VLe.nil_opt rfl),VLf.refl _,VLf.refl _,VLf.refl _,trivial⟩,trivial⟩),rfl,.inl rfl,rfl,.inl rfl,rfl,.inl rfl,trivial⟩) ?_
    exact oR [(10,10,1),(10008,10008,1),(5000,19510,1),(5001,20510,1)] ⟨l6,9,x45,w30,0,0,0,w31,[],([] : List Stmt),([] : List Stmt),h,rfl⟩
   refine Qzd hT 3 [0,1,2,8,9,10,163] [(163,vb (decide (r7 < 23)))] ?_
   refine Ci h (fun h=>?_) fun h=>?_
   ·refine Qzh hT 2 [0,1,2,8,9,10] [] [(10,cb 1 39 11 (.agg [vi 10,vw w29,vw w30,vi 0,vi 0,vi 0,vw w31,vn,vn,vn,vz c0])),(9,cb 1 73 5 (eAct x5)),(10008,rb 1 s_Stmt l2)] 2 ?_
    refine Rgd hT 3 [0,1,2,8,10,167,169] [(167,.agg [vw k_l,vw k_k]),(169,vi x5.A)] ?_
    obtain ⟨r46,hr46,h⟩:=bsome h
    refine Pt' en12 (hand_Pick_ok hr46) ?_
    refine Sgd hT 0 [0,1,2,8,10,167,170] [(170,vi r46)] ?_
    obtain ⟨x47,hx47,h⟩:=bsome h
    refine One' hT rfl (v_indexA e_s [k_l,k_k] .i64 r46 _ _ 9 hx47) ?_
    refine Sgh hT 2 [0,1,2,8,10] [] [(10,cb 1 39 11 (.agg [vi 10,vw x47,vw w30,vi 0,vi 0,vi 0,vw w31,vn,vn,vn,vz c0])),(9,cb 1 73 5 (eAct x5)),(10008,rb 1 s_Stmt l2)] 2 ?_
    refine oW [0,1,2,8,10] ⟨[(0,po s_Act l6),(1,vi a1),(2,vi a2),(8,vs 10008 1 s_Stmt l2),(10,bx 10 1)],[(10,cb 1 39 11 (.agg [vi 10,vw x47,vw w30,vi 0,vi 0,vi 0,vw w31,vn,vn,vn,vz c0])),(9,cb 1 73 5 (eAct x5)),(10008,rb 1 s_Stmt l2)],2⟩ ?_
    refine WO_weak (wOh 10 5000 8 (cb 1 39 11 (.agg [vi 10,vw x47,vw w30,vi 0,vi 0,vi 0,vw w31,vn,vn,vn,vz c0])) (.agg [vi 10,vw x47,vw w30,vi 0,vi 0,vi 0,vw w31,vn,vn,vn,vz c0]) (.agg [vi 10,vw x47,vw w30,vi 0,vi 0,vi 0,vw w31,vn,vs 5000 2 s_Stmt ([] : List Stmt),vn,vz c0]) 39 11) ?_
    refine WO_weak (wOh 10 5001 9 (cb 1 39 11 (.agg [vi 10,vw x47,vw w30,vi 0,vi 0,vi 0,vw w31,vn,vs 5000 2 s_Stmt ([] : List Stmt),vn,vz c0])) (.agg [vi 10,vw x47,vw w30,vi 0,vi 0,vi 0,vw w31,vn,vs 5000 2 s_Stmt ([] : List Stmt),vn,vz c0]) (.agg [vi 10,vw x47,vw w30,vi 0,vi 0,vi 0,vw w31,vn,vs 5000 2 s_Stmt ([] : List Stmt),vs 5001 3 s_Stmt ([] : List Stmt),vz c0]) 39 11) ?_
    refine WO_weak (wL [(0,po s_Act l6),(1,vi a1),(2,vi a2),(8,vs 10008 1 s_Stmt l2),(10,bx 10 1)] [(5001,rb 3 s_Stmt ([] : List Stmt)),(10,cb 1 39 11 (.agg [vi 10,vw x47,vw w30,vi 0,vi 0,vi 0,vw w31,po s_Expr [],vs 5000 2 s_Stmt ([] : List Stmt),vs 5001 3 s_Stmt ([] : List Stmt),vz c0])),(5000,rb 2 s_Stmt ([] : List Stmt)),(9,cb 1 73 5 (eAct x5)),(10008,rb 1 s_Stmt l2)] ⟨VLf.refl _,VLf.refl _,VLf.refl _,VLf.refl _,VLf.refl _,trivial⟩ ⟨rfl,.inl rfl,rfl,.inr (.inl ⟨rfl,rfl,CLe.agg ⟨VLf.refl _,VLf.refl _,VLf.refl _,VLf.refl _,VLf.refl _,VLf.refl _,VLf.refl _,(VLe.f VLe.nil_opt rfl),VLf.refl _,VLf.refl _,VLf.refl _,trivial⟩,trivial⟩),rfl,.inl rfl,rfl,.inl rfl,rfl,.inl rfl,trivial⟩) ?_
    exact oR [(10,10,1),(10008,10008,1),(5000,19510,1),(5001,20510,1)] ⟨l6,10,x47,w30,0,0,0,w31,[],([] : List Stmt),([] : List Stmt),h,rfl⟩
   refine Qzh hT 2 [0,1,2,8,9,10] [] [(10,cb 1 39 11 (.agg [vi 1,vw w29,vw w30,vi 0,vi 0,vi 0,vw w31,vn,vn,vn,vz c0])),(9,cb 1 73 5 (eAct x5)),(10008,rb 1 s_Stmt l2)] 2 ?_
   refine Qzh hT 2 [0,1,2,8,9,10] [] [(10,cb 1 39 11 (.agg [vi 1,vw k_t,vw w30,vi 0,vi 0,vi 0,vw w31,vn,vn,vn,vz c0])),(9,cb 1 73 5 (eAct x5)),(10008,rb 1 s_Stmt l2)] 2 ?_
   refine Rg hT 1 [0,1,2,8,10,32] ⟨[(0,po s_Act l6),(1,vi a1),(2,vi a2),(8,vs 10008 1 s_Stmt l2),(10,bx 10 1),(32,eAct x5)],[(10,cb 1 39 11 (.agg [vi 1,vw k_t,vw w30,vi 0,vi 0,vi 0,vw w31,vn,vn,vn,vz c0])),(9,cb 1 73 5 (eAct x5)),(10008,rb 1 s_Stmt l2)],2⟩ ?_
   obtain ⟨r48,hr48,h⟩:=bsome h
   refine Pt' en46 (hand_short_ok hr48) ?_
   refine Sgh hT 2 [0,1,2,8,10] [] [(10,cb 1 39 11 (.agg [vi 1,vw k_t,vw w30,vi 0,vi r48.Kind,vi r48.N,vw r48.Name,po s_Expr r48.Of,vn,vn,vz c0])),(9,cb 1 73 5 (eAct x5)),(10008,rb 1 s_Stmt l2)] 2 ?_
   refine oW [0,1,2,8,10] ⟨[(0,po s_Act l6),(1,vi a1),(2,vi a2),(8,vs 10008 1 s_Stmt l2),(10,bx 10 1)],[(10,cb 1 39 11 (.agg [vi 1,vw k_t,vw w30,vi 0,vi r48.Kind,vi r48.N,vw r48.Name,po s_Expr r48.Of,vn,vn,vz c0])),(9,cb 1 73 5 (eAct x5)),(10008,rb 1 s_Stmt l2)],2⟩ ?_
   refine WO_weak (wOh 10 5000 8 (cb 1 39 11 (.agg [vi 1,vw k_t,vw w30,vi 0,vi r48.Kind,vi r48.N,vw r48.Name,po s_Expr r48.Of,vn,vn,vz c0])) (.agg [vi 1,vw k_t,vw w30,vi 0,vi r48.Kind,vi r48.N,vw r48.Name,po s_Expr r48.Of,vn,vn,vz c0]) (.agg [vi 1,vw k_t,vw w30,vi 0,vi r48.Kind,vi r48.N,vw r48.Name,po s_Expr r48.Of,vs 5000 2 s_Stmt ([] : List Stmt),vn,vz c0]) 39 11) ?_
   refine WO_weak (wOh 10 5001 9 (cb 1 39 11 (.agg [vi 1,vw k_t,vw w30,vi 0,vi r48.Kind,vi r48.N,vw r48.Name,po s_Expr r48.Of,vs 5000 2 s_Stmt ([] : List Stmt),vn,vz c0])) (.agg [vi 1,vw k_t,vw w30,vi 0,vi r48.Kind,vi r48.N,vw r48.Name,po s_Expr r48.Of,vs 5000 2 s_Stmt ([] : List Stmt),vn,vz c0]) (.agg [vi 1,vw k_t,vw w30,vi 0,vi r48.Kind,vi r48.N,vw r48.Name,po s_Expr r48.Of,vs 5000 2 s_Stmt ([] : List Stmt),vs 5001 3 s_Stmt ([] : List Stmt),vz c0]) 39 11) ?_
   exact oR [(10,10,1),(10008,10008,1),(5000,19510,1),(5001,20510,1)] ⟨l6,1,k_t,w30,0,r48.Kind,r48.N,r48.Name,r48.Of,([] : List Stmt),([] : List Stmt),h,rfl⟩
  subst hJ19
  rintro s ⟨l8,i9,w10,w11,i12,i13,i14,w15,l16,l17,l18,h,rfl⟩
  skip
  refine Rgd hT 2 [0,1,2,173,174] [(173,vs 10008 1 s_Stmt l2),(174,.agg [vi i9,vw w10,vw w11,vi i12,vi i13,vi i14,vw w15,po s_Expr l16,vs 19510 1 s_Stmt l17,vs 20510 1 s_Stmt l18,vz c0])] ?_
  refine WO_weak (wF 19510 1 (rb 1 s_Stmt l17) [(0,po s_Act l8),(1,vi a1),(2,vi a2),(173,vs 10008 1 s_Stmt l2),(174,.agg [vi i9,vw w10,vw w11,vi i12,vi i13,vi i14,vw w15,po s_Expr l16,po s_Stmt l17,vs 20510 1 s_Stmt l18,vz c0])] [(10,cb 1 39 11 (.agg [vi i9,vw w10,vw w11,vi i12,vi i13,vi i14,vw w15,po s_Expr l16,po s_Stmt l17,vs 20510 1 s_Stmt l18,vz c0])),(10008,rb 1 s_Stmt l2),(20510,rb 1 s_Stmt l18)] ⟨rfl,.keep _,rfl,.keep _,rfl,.keep _,rfl,.keep _,rfl,.aggs ⟨.keep _,.keep _,.keep _,.keep _,.keep _,.keep _,.keep _,.keep _,.hit true,.keep _,.keep _,trivial⟩,trivial⟩ ⟨rfl,.inr ⟨rfl,rfl,.aggs ⟨.keep _,.keep _,.keep _,.keep _,.keep _,.keep _,.keep _,.keep _,.hit true,.keep _,.keep _,trivial⟩,trivial⟩,rfl,.inl rfl,rfl,.inl rfl,trivial⟩) ?_
  refine WO_weak (wF 20510 1 (rb 1 s_Stmt l18) [(0,po s_Act l8),(1,vi a1),(2,vi a2),(173,vs 10008 1 s_Stmt l2),(174,.agg [vi i9,vw w10,vw w11,vi i12,vi i13,vi i14,vw w15,po s_Expr l16,po s_Stmt l17,po s_Stmt l18,vz c0])] [(10,cb 1 39 11 (.agg [vi i9,vw w10,vw w11,vi i12,vi i13,vi i14,vw w15,po s_Expr l16,po s_Stmt l17,po s_Stmt l18,vz c0])),(10008,rb 1 s_Stmt l2)] ⟨rfl,.keep _,rfl,.keep _,rfl,.keep _,rfl,.keep _,rfl,.aggs ⟨.keep _,.keep _,.keep _,.keep _,.keep _,.keep _,.keep _,.keep _,.keep _,.hit true,.keep _,trivial⟩,trivial⟩ ⟨rfl,.inr ⟨rfl,rfl,.aggs ⟨.keep _,.keep _,.keep _,.keep _,.keep _,.keep _,.keep _,.keep _,.keep _,.hit true,.keep _,trivial⟩,trivial⟩,rfl,.inl rfl,trivial⟩) ?_
  refine One' hT rfl (ev_bslice s_Stmt 175 [(Stmt.mk i9 w10 w11 i12 (Expr.mk i13 i14 w15 l16) l17 l18 c0)] (by kernel_rfl)) ?_
  refine Sgh hT 0 [0,1,2,173,175] [(175,vs 175 2 s_Stmt [(Stmt.mk i9 w10 w11 i12 (Expr.mk i13 i14 w15 l16) l17 l18 c0)])] [(175,⟨2,39,11,false,false,s_Stmt.F [(Stmt.mk i9 w10 w11 i12 (Expr.mk i13 i14 w15 l16) l17 l18 c0)]⟩),(10,cb 1 39 11 (.agg [vi i9,vw w10,vw w11,vi i12,vi i13,vi i14,vw w15,po s_Expr l16,po s_Stmt l17,po s_Stmt l18,vz c0])),(10008,rb 1 s_Stmt l2)] 3 ?_
  obtain ⟨g49,h⟩:=gsome h
  refine Oa hT s_Stmt 10008 1 true l2 [(Stmt.mk i9 w10 w11 i12 (Expr.mk i13 i14 w15 l16) l17 l18 c0)] (eO s_Stmt 175 2 true ⟨2,39,11,false,false,s_Stmt.F [(Stmt.mk i9 w10 w11 i12 (Expr.mk i13 i14 w15 l16) l17 l18 c0)]⟩ [(Stmt.mk i9 w10 w11 i12 (Expr.mk i13 i14 w15 l16) l17 l18 c0)]) g49 ?_
  refine Sgh hT 1 [0,1,2,8] [(8,vs 176 3 s_Stmt (l2 ++ [(Stmt.mk i9 w10 w11 i12 (Expr.mk i13 i14 w15 l16) l17 l18 c0)]))] [(176,rb 3 s_Stmt (l2 ++ [(Stmt.mk i9 w10 w11 i12 (Expr.mk i13 i14 w15 l16) l17 l18 c0)])),(175,⟨2,39,11,false,false,s_Stmt.F [(Stmt.mk i9 w10 w11 i12 (Expr.mk i13 i14 w15 l16) l17 l18 c0)]⟩),(10,cb 1 39 11 (.agg [vi i9,vw w10,vw w11,vi i12,vi i13,vi i14,vw w15,po s_Expr l16,po s_Stmt l17,po s_Stmt l18,vz c0]))] 4 ?_
  exact oK [0,1,2,8] [(176,10008,1)] ⟨_,by omega,by omega,l8,l2 ++ [(Stmt.mk i9 w10 w11 i12 (Expr.mk i13 i14 w15 l16) l17 l18 c0)],h,rfl⟩
 refine WA_exit ?_
 refine Qzd hT 4 [6,7] [(6,vs 10008 1 s_Stmt l2),(7,po s_Act l1)] ?_
 obtain rfl:=Option.some.inj h
 exact rK [6,7] [(10008,100,1)] ⟨[(6,vs 100 1 s_Stmt l2),(7,po s_Act l1)],[(100,rb 1 s_Stmt l2)],2⟩ ⟨by kernel_rfl,by kernel_rfl,rfl⟩
theorem hand_stmts_all (n : Nat) : hand_stmts_spec n:=by
 induction n using Nat.strongRecOn with
 | _ n ih=>exact hand_stmts_step n ih
theorem hand_stmts_ok {n : Nat} {a0 : List Act} {a1 : Int} {a2 : Int} {r : (List Stmt) × (List Act)} (h : hand_stmts n a0 a1 a2 = some r) : GO Try.prog 25 [] [po s_Act a0,vi a1,vi a2] (.tup [vs 100 1 s_Stmt r.1,po s_Act r.2]) [(100,rb 1 s_Stmt r.1)]:=(hand_stmts_all n) h
theorem hand_Prog_ok {n : Nat} {a0 : Int} {a1 : List Act} {a2 : List Act} {a3 : List Act} {a4 : Int} {r : Prog} (h : hand_Prog n a0 a1 a2 a3 a4 = some r) : GO Try.prog 7 [] [vi a0,po s_Act a1,po s_Act a2,po s_Act a3,vi a4] (.agg [po s_Decl r.Decls,vs 100 1 s_LStmt r.Threads]) [(100,rb 1 s_LStmt r.Threads)]:=by
 unfold hand_Prog at h
 refine GO_bodyA hT Try.func7 rfl [1000] (by kernel_rfl) fun bad w m=>?_
 refine Qzh hT 1 [0,1,2,3,4,10] [(10,bx 10 1)] [(10,cb 1 26 2 (.agg [vn,vn]))] 2 ?_
 refine Qgd hT 1 [1,2,3,4,10,16] [(16,vi a0)] ?_
 obtain ⟨r1,hr1,h⟩:=bsome h
 refine Og [] [(100,rb 1 s_Decl r1)] [vi a0] [vi a0] [] [(100,17,2)] [(17,rb 2 s_Decl r1)] (vs 100 1 s_Decl r1) (vs 17 2 s_Decl r1) 3 en24 (hand_Decls_ok hr1) ?_
 refine Sgh hT 0 [1,2,3,4,10,17] [(17,vs 17 2 s_Decl r1)] [(17,rb 2 s_Decl r1),(10,cb 1 26 2 (.agg [vn,vn]))] 3 ?_
 refine WO_weak (wF 17 2 (rb 2 s_Decl r1) [(1,po s_Act a1),(2,po s_Act a2),(3,po s_Act a3),(4,vi a4),(10,bx 10 1),(17,po s_Decl r1)] [(10,cb 1 26 2 (.agg [vn,vn]))] ⟨rfl,.keep _,rfl,.keep _,rfl,.keep _,rfl,.keep _,rfl,.keep _,rfl,.hit true,trivial⟩ ⟨rfl,.inl rfl,trivial⟩) ?_
 refine Szh hT 3 [1,2,3,4,10,11] [(11,bx 11 3)] [(11,cb 3 26 2 (.agg [po s_Decl r1,vn])),(10,cb 1 26 2 (.agg [vn,vn]))] 4 ?_
 refine WA_seq ?_
 refine Qzd hT 5 [3,4,10,11,22,23] [(22,.agg [po s_Act a1,po s_Act a2,po s_Act a3]),(23,vi 0)] ?_
 obtain ⟨J3,hJ3,h⟩:=jsome h
 refine WA_join (fun s=>∃ (l2 : List (List Stmt)),J3 l2 = some r ∧ s = ⟨[(10,bx 10 1),(11,bx 11 1)],[(10,cb 1 26 2 (.agg [vn,vn])),(11,cb 1 26 2 (.agg [po s_Decl r1,vs 12511 1 s_LStmt l2])),(12511,rb 1 s_LStmt l2)],2⟩) ?_ ?_
 ·refine WA_block ?_
  refine aW [3,4,10,11,22,23] ⟨[(3,po s_Act a3),(4,vi a4),(10,bx 10 1),(11,bx 11 3),(22,.agg [po s_Act a1,po s_Act a2,po s_Act a3]),(23,vi 0)],[(11,cb 3 26 2 (.agg [po s_Decl r1,vn])),(10,cb 1 26 2 (.agg [vn,vn]))],4⟩ ?_
  refine WA_weak (wOh 11 5000 1 (cb 3 26 2 (.agg [po s_Decl r1,vn])) (.agg [po s_Decl r1,vn]) (.agg [po s_Decl r1,vs 5000 4 s_LStmt ([] : List (List Stmt))]) 29 1) ?_
  refine lR [(10,10,1),(11,11,1),(5000,12511,1)] (fun k s=>∃ q,q ≤ k ∧ q ≤ n ∧ ∃ (l4 : List (List Stmt)),∃ (i5 : Int),hand_Prog_L0 q a0 a1 a2 a3 a4 r1 J3 l4 i5 = some r ∧ s = ⟨[(3,po s_Act a3),(4,vi a4),(10,bx 10 1),(11,bx 11 1),(22,.agg [po s_Act a1,po s_Act a2,po s_Act a3]),(23,vi i5)],[(10,cb 1 26 2 (.agg [vn,vn])),(11,cb 1 26 2 (.agg [po s_Decl r1,vs 12511 1 s_LStmt l4])),(12511,rb 1 s_LStmt l4)],2⟩) n ⟨n,Nat.le_refl _,Nat.le_refl _,([] : List (List Stmt)),0,h,rfl⟩ (by rintro s ⟨q,hq,_,l4,i5,h,_⟩; obtain rfl:=Nat.le_zero.1 hq; rw [hand_Prog_L0] at h; cases h) ?_
  clear h
  rintro k1 s ⟨q1,hk1,hn1,l4,i5,h,rfl⟩
  rcases q1 with _ | q1
  ·rw [hand_Prog_L0] at h; cases h
  rw [hand_Prog_L0] at h
  refine Qzd hT 1 [3,4,10,11,22,23,24] [(24,vb (decide (i5 < 3)))] ?_
  refine WA_seq ?_
  refine Ci h (fun h=>?_) fun h=>?_
  ·refine WA_skip ?_
   refine WA_seq ?_
   refine WA_block ?_
   refine Qgd hT 1 [3,4,10,11,22,23,25] [(25,vi i5)] ?_
   obtain ⟨x6,hx6,h⟩:=bsome h
   refine One' hT rfl (v_indexA el_Act [a1,a2,a3] .i64 i5 _ _ 22 hx6) ?_
   refine Szd hT 2 [3,4,10,11,12,13,22,23] [(12,vi i5),(13,po s_Act x6)] ?_
   refine WA_seq ?_
   refine WA_seq ?_
   obtain ⟨J8,hJ8,h⟩:=jsome h
   refine WA_join (fun s=>∃ (b7 : Bool),J8 b7 = some r ∧ s = ⟨[(3,po s_Act a3),(4,vi a4),(10,bx 10 1),(11,bx 11 1),(13,po s_Act x6),(22,.agg [po s_Act a1,po s_Act a2,po s_Act a3]),(23,vi i5),(37,vb b7)],[(10,cb 1 26 2 (.agg [vn,vn])),(11,cb 1 26 2 (.agg [po s_Decl r1,vs 12511 1 s_LStmt l4])),(12511,rb 1 s_LStmt l4)],2⟩) ?_ ?_
   ·refine Rgd hT 3 [3,4,10,11,13,22,23,29] [(29,vb (i5 == 2))] ?_
    cases hb : ((i5 == 2) : Bool)
    ·replace h:=cfalse hb h
     refine Sgd hT 8 [3,4,10,11,13,22,23,37] [(37,vb false)] ?_
     exact oK [3,4,10,11,13,22,23,37] [(10,10,1),(11,11,1),(12511,12511,1)] ⟨false,h,rfl⟩
    replace h:=ctrue hb h
    refine Sgd hT 1 [3,4,10,11,13,22,23,29,30] [(30,po s_Act a3)] ?_
    refine One' hT rfl (v_len s_Act .opt a3) ?_
    refine Sg hT 2 [3,4,10,11,13,22,23,29,33] ⟨[(3,po s_Act a3),(4,vi a4),(10,bx 10 1),(11,bx 11 1),(13,po s_Act x6),(22,.agg [po s_Act a1,po s_Act a2,po s_Act a3]),(23,vi i5),(29,vb true),(33,vb ((ln a3) == 0))],[(10,cb 1 26 2 (.agg [vn,vn])),(11,cb 1 26 2 (.agg [po s_Decl r1,vs 12511 1 s_LStmt l4])),(12511,rb 1 s_LStmt l4)],2⟩ ?_
    cases hb : (((ln a3) == 0) : Bool)
    ·replace h:=cfalse hb h
     refine Sgd hT 4 [3,4,10,11,13,22,23,37] [(37,vb (decide (a4 > 4)))] ?_
     exact oK [3,4,10,11,13,22,23,37] [(10,10,1),(11,11,1),(12511,12511,1)] ⟨decide (a4 > 4),h,rfl⟩
    replace h:=ctrue hb h
    refine Sgd hT 4 [3,4,10,11,13,22,23,37] [(37,vb true)] ?_
    exact oK [3,4,10,11,13,22,23,37] [(10,10,1),(11,11,1),(12511,12511,1)] ⟨true,h,rfl⟩
   subst hJ8
   rintro s ⟨b7,h,rfl⟩
   skip
   refine Ci h (fun h=>?_) fun h=>?_
   ·exact eK [10,11] [(10,10,1),(11,11,1),(12511,12511,1)] ⟨l4,h,rfl⟩
   refine WA_skip ?_
   refine Qgd hT 1 [3,4,10,11,22,23,39] [(39,po s_Act x6)] ?_
   obtain ⟨r9,hr9,h⟩:=bsome h
   refine Pt' en26 (hand_acts_ok hr9) ?_
   refine Sgd hT 1 [3,4,10,11,22,23,40,41] [(40,po s_Act r9),(41,vi a4)] ?_
   obtain ⟨r10,hr10,h⟩:=bsome h
   refine Og [] [(100,rb 1 s_Stmt r10.1)] [po s_Act r9,vi a4,vi 1] [po s_Act r9,vi a4,vi 1] [] [(100,42,2)] [(42,rb 2 s_Stmt r10.1)] (.tup [vs 100 1 s_Stmt r10.1,po s_Act r10.2]) (.tup [vs 42 2 s_Stmt r10.1,po s_Act r10.2]) 3 en25 (hand_stmts_ok hr10) ?_
   refine Szh hT 5 [3,4,10,11,14,22,23] [(14,vs 42 2 s_Stmt r10.1)] [(42,rb 2 s_Stmt r10.1),(10,cb 1 26 2 (.agg [vn,vn])),(11,cb 1 26 2 (.agg [po s_Decl r1,vs 12511 1 s_LStmt l4])),(12511,rb 1 s_LStmt l4)] 3 ?_
   refine Rgd hT 3 [3,4,10,11,22,23,46,47] [(46,vs 12511 1 s_LStmt l4),(47,vs 42 2 s_Stmt r10.1)] ?_
   refine WO_weak (wF 42 2 (rb 2 s_Stmt r10.1) [(3,po s_Act a3),(4,vi a4),(10,bx 10 1),(11,bx 11 1),(22,.agg [po s_Act a1,po s_Act a2,po s_Act a3]),(23,vi i5),(46,vs 12511 1 s_LStmt l4),(47,po s_Stmt r10.1)] [(10,cb 1 26 2 (.agg [vn,vn])),(11,cb 1 26 2 (.agg [po s_Decl r1,vs 12511 1 s_LStmt l4])),(12511,rb 1 s_LStmt l4)] ⟨rfl,.keep _,rfl,.keep _,rfl,.keep _,rfl,.keep _,rfl,.keep _,rfl,.keep _,rfl,.keep _,rfl,.hit true,trivial⟩ ⟨rfl,.inl rfl,rfl,.inl rfl,rfl,.inl rfl,trivial⟩) ?_
   refine Sgh hT 1 [3,4,10,11,22,23,46,48] [(48,vs 48 3 s_LStmt [r10.1])] [(48,⟨3,29,1,false,false,s_LStmt.F [r10.1]⟩),(10,cb 1 26 2 (.agg [vn,vn])),(11,cb 1 26 2 (.agg [po s_Decl r1,vs 12511 1 s_LStmt l4])),(12511,rb 1 s_LStmt l4)] 4 ?_
   obtain ⟨g11,h⟩:=gsome h
   refine Oa hT s_LStmt 12511 1 true l4 [r10.1] (eO s_LStmt 48 3 true ⟨3,29,1,false,false,s_LStmt.F [r10.1]⟩ [r10.1]) g11 ?_
   refine Szh hT 2 [3,4,10,11,22,23] [] [(11,cb 1 26 2 (.agg [po s_Decl r1,vs 49 4 s_LStmt (l4 ++ [r10.1])])),(49,rb 4 s_LStmt (l4 ++ [r10.1])),(48,⟨3,29,1,false,false,s_LStmt.F [r10.1]⟩),(10,cb 1 26 2 (.agg [vn,vn]))] 5 ?_
   refine Rg hT 2 [3,4,10,11,22,23] ⟨[(3,po s_Act a3),(4,vi a4),(10,bx 10 1),(11,bx 11 1),(22,.agg [po s_Act a1,po s_Act a2,po s_Act a3]),(23,vi (wr (i5 + 1)))],[(11,cb 1 26 2 (.agg [po s_Decl r1,vs 49 4 s_LStmt (l4 ++ [r10.1])])),(49,rb 4 s_LStmt (l4 ++ [r10.1])),(48,⟨3,29,1,false,false,s_LStmt.F [r10.1]⟩),(10,cb 1 26 2 (.agg [vn,vn]))],5⟩ ?_
   exact oK [3,4,10,11,22,23] [(10,10,1),(11,11,1),(49,12511,1)] ⟨_,by omega,by omega,l4 ++ [r10.1],wr (i5 + 1),h,rfl⟩
  exact eK [10,11] [(10,10,1),(11,11,1),(12511,12511,1)] ⟨l4,h,rfl⟩
 subst hJ3
 rintro s ⟨l2,h,rfl⟩
 refine Qz hT 2 [10] ⟨[(10,bx 10 1)],[(10,cb 1 26 2 (.agg [po s_Decl r1,vs 12511 1 s_LStmt l2])),(11,cb 1 26 2 (.agg [po s_Decl r1,vs 12511 1 s_LStmt l2])),(12511,rb 1 s_LStmt l2)],2⟩ ?_
 obtain rfl:=Option.some.inj h
 exact rK [10] [(12511,100,1),(10,1000,1)] ⟨[(10,bx 1000 1)],[(100,rb 1 s_LStmt l2),(1000,cb 1 26 2 (.agg [po s_Decl r1,vs 100 1 s_LStmt l2]))],2⟩ ⟨by kernel_rfl,by kernel_rfl,rfl⟩
theorem law3_name_ok {n : Nat} {a0 : ByteArray} {r : Expr} (h : law3_name n a0 = some r) : PT Try.prog 15 [vw a0] (eExpr r):=by
 unfold law3_name at h
 refine PT_bodyA hT Try.func15 rfl (by kernel_rfl) fun bad w=>?_
 refine Qz hT 1 [0,2] ⟨[(0,vw a0),(2,bx 2 0)],[(2,cb 0 36 4 (.agg [vi 0,vi 0,vw b0,vn]))],1⟩ ?_
 refine Qz hT 3 [2] ⟨[(2,bx 2 0)],[(2,cb 0 36 4 (.agg [vi 2,vi 0,vw a0,vn]))],1⟩ ?_
 refine aW [2] ⟨[(2,bx 2 0)],[(2,cb 0 36 4 (.agg [vi 2,vi 0,vw a0,vn]))],1⟩ ?_
 refine WA_weak (wL [(2,bx 2 0)] [(2,cb 0 36 4 (eExpr (Expr.mk 2 0 a0 [])))] ⟨VLf.refl _,trivial⟩ ⟨rfl,.inr (.inl ⟨rfl,rfl,CLe.agg ⟨VLf.refl _,VLf.refl _,VLf.refl _,(VLe.f VLe.nil_opt rfl),trivial⟩,trivial⟩),trivial⟩) ?_
 obtain rfl:=Option.some.inj h
 exact rR [(2,1000,0)] ⟨[(2,bx 1000 0)],[(1000,cb 0 36 4 (eExpr (Expr.mk 2 0 a0 [])))],1⟩ ⟨by kernel_rfl,rfl⟩
theorem Clip_string_ok {n : Nat} {a0 : List ByteArray} {r : List ByteArray} (h : Clip_string n a0 = some r) : PT Try.prog 42 [po s_string a0] (.ps .fopt (s_string.F r)):=by
 unfold Clip_string at h
 refine PT_bodyA hT Try.func42 rfl (by kernel_rfl) fun bad w=>?_
 refine Qzd hT 1 [0] [] ?_
 refine Qgd hT 2 [0,3,4] [(3,po s_string a0),(4,po s_string a0)] ?_
 refine One' hT rfl (v_len s_string .opt a0) ?_
 refine Sgd hT 1 [3,5,6] [(5,vi (ln a0)),(6,po s_string a0)] ?_
 refine One' hT rfl (v_len s_string .opt a0) ?_
 refine Sgd hT 0 [3,5,7] [(7,vi (ln a0))] ?_
 obtain ⟨l1,hl1,h⟩:=bsome h
 refine One' hT rfl (v_slice s_string .opt a0 0 (ln a0) (some (ln a0)) l1 .fopt hl1 (by intro y hy; cases hy; rfl)) ?_
 refine Sz hT 1 [2] ⟨[(2,.ps .fopt (s_string.F l1))],[],0⟩ ?_
 obtain rfl:=Option.some.inj h
 exact rK [2] [] ⟨[(2,.ps .fopt (s_string.F l1))],[],1⟩ ⟨by kernel_rfl,rfl⟩
def tree_Names_spec (n : Nat) : Prop:=(∀ {a0 : Expr} {r : List ByteArray},tree_Names n a0 = some r → PT Try.prog 22 [eExpr a0] (.ps .fopt (s_string.F r)))
theorem tree_Names_step (n : Nat) (ih : ∀ m,m < n → tree_Names_spec m) : ∀ {a0 : Expr} {r : List ByteArray},tree_Names n a0 = some r → PT Try.prog 22 [eExpr a0] (.ps .fopt (s_string.F r)):=by
 intro a0 r h
 rcases n with _ | n
 ·rw [tree_Names] at h; cases h
 rw [tree_Names] at h
 refine PT_bodyA hT Try.func22 rfl (by kernel_rfl) fun bad w=>?_
 refine Qz hT 2 [1] ⟨[(1,bx 1 0)],[(1,cb 0 36 4 (eExpr a0))],1⟩ ?_
 refine Qzd hT 1 [1,3] [(3,vn)] ?_
 refine WA_seq ?_
 refine Qzd hT 3 [1,3,8] [(8,vb (a0.Kind == 2))] ?_
 obtain ⟨J2,hJ2,h⟩:=jsome h
 refine WA_join (fun s=>∃ (l1 : List ByteArray),J2 l1 = some r ∧ s = ⟨[(1,bx 1 0),(3,vs 10003 0 s_string l1)],[(1,cb 0 36 4 (eExpr a0)),(10003,rb 0 s_string l1)],1⟩) ?_ ?_
 ·refine Ci h (fun h=>?_) fun h=>?_
  ·refine Rg hT 4 [1,9,12] ⟨[(1,bx 1 0),(9,vn),(12,vs 12 1 s_string [a0.Name])],[(12,⟨1,9,1,false,false,s_string.F [a0.Name]⟩),(1,cb 0 36 4 (eExpr a0))],2⟩ ?_
   refine WO_weak (wO 9 6013 9 1) ?_
   obtain ⟨g3,h⟩:=gsome h
   refine Oa hT s_string 6013 2 true ([] : List ByteArray) [a0.Name] (eO s_string 12 1 true ⟨1,9,1,false,false,s_string.F [a0.Name]⟩ [a0.Name]) g3 ?_
   refine Sg hT 1 [1,3] ⟨[(1,bx 1 0),(3,vs 13 3 s_string (([] : List ByteArray) ++ [a0.Name]))],[(13,rb 3 s_string (([] : List ByteArray) ++ [a0.Name])),(12,⟨1,9,1,false,false,s_string.F [a0.Name]⟩),(1,cb 0 36 4 (eExpr a0))],4⟩ ?_
   exact oK [1,3] [(1,1,0),(13,10003,0)] ⟨([] : List ByteArray) ++ [a0.Name],h,rfl⟩
  refine aW [1,3] ⟨[(1,bx 1 0),(3,vn)],[(1,cb 0 36 4 (eExpr a0))],1⟩ ?_
  refine WA_weak (wO 3 5000 9 1) ?_
  exact sK [1,3] [(1,1,0),(5000,10003,0)] ⟨([] : List ByteArray),h,rfl⟩
 subst hJ2
 rintro s ⟨l1,h,rfl⟩
 refine WA_seq ?_
 refine Qgd hT 2 [3,15] [(15,po s_Expr a0.Of)] ?_
 refine One' hT rfl (v_len s_Expr .opt a0.Of) ?_
 refine Szd hT 1 [3,15,16,17] [(16,vi (ln a0.Of)),(17,vi 0)] ?_
 refine WA_block ?_
 refine lK [3,15,16,17] [(10003,10003,0)] (fun k s=>∃ q,q ≤ k ∧ q ≤ n ∧ ∃ (l4 : List ByteArray),∃ (i5 : Int),tree_Names_L0 q a0 l1 l4 i5 = some r ∧ s = ⟨[(3,vs 10003 0 s_string l4),(15,po s_Expr a0.Of),(16,vi (ln a0.Of)),(17,vi i5)],[(10003,rb 0 s_string l4)],1⟩) n ⟨n,Nat.le_refl _,Nat.le_refl _,l1,0,h,rfl⟩ (by rintro s ⟨q,hq,_,l4,i5,h,_⟩; obtain rfl:=Nat.le_zero.1 hq; rw [tree_Names_L0] at h; cases h) ?_
 clear h
 rintro k1 s ⟨q1,hk1,hn1,l4,i5,h,rfl⟩
 rcases q1 with _ | q1
 ·rw [tree_Names_L0] at h; cases h
 rw [tree_Names_L0] at h
 refine Qzd hT 1 [3,15,16,17,18] [(18,vb (decide (i5 < (ln a0.Of))))] ?_
 refine WA_seq ?_
 refine Ci h (fun h=>?_) fun h=>?_
 ·refine WA_skip ?_
  refine WA_seq ?_
  refine WA_block ?_
  refine Qg hT 0 [3,15,16,17] ⟨[(3,vs 10003 0 s_string l4),(15,po s_Expr a0.Of),(16,vi (ln a0.Of)),(17,vi i5)],[(10003,rb 0 s_string l4)],1⟩ ?_
  obtain ⟨x6,hx6,h⟩:=bsome h
  refine One' hT rfl (v_index s_Expr .opt a0.Of .i64 i5 hx6) ?_
  refine Szh hT 3 [3,5,15,16,17] [(5,bx 5 1)] [(5,cb 1 36 4 (eExpr x6)),(10003,rb 0 s_string l4)] 2 ?_
  refine Rgd hT 2 [15,16,17,21,22] [(21,vs 10003 0 s_string l4),(22,eExpr x6)] ?_
  obtain ⟨r7,hr7,h⟩:=bsome h
  refine Pt' en22 ((ih _ (by omega)) hr7) ?_
  refine Sgd hT 0 [15,16,17,21,23] [(23,.ps .fopt (s_string.F r7))] ?_
  obtain ⟨g8,h⟩:=gsome h
  refine Oa hT s_string 10003 0 true l4 r7 (by kernel_rfl) g8 ?_
  refine Szh hT 1 [3,15,16,17] [(3,vs 24 2 s_string (l4 ++ r7))] [(24,rb 2 s_string (l4 ++ r7)),(5,cb 1 36 4 (eExpr x6))] 3 ?_
  refine Rgd hT 2 [3,15,16,17] [(17,vi (wr (i5 + 1)))] ?_
  exact oK [3,15,16,17] [(24,10003,0)] ⟨_,by omega,by omega,l4 ++ r7,wr (i5 + 1),h,rfl⟩
 refine WA_exit ?_
 refine Qgd hT 1 [26] [(26,vs 10003 0 s_string l4)] ?_
 refine WO_weak (wF 10003 0 (rb 0 s_string l4) [(26,po s_string l4)] [] ⟨rfl,.hit true,trivial⟩ trivial) ?_
 obtain ⟨r9,hr9,h⟩:=bsome h
 refine Pt' en42 (Clip_string_ok hr9) ?_
 refine Sz hT 1 [2] ⟨[(2,.ps .fopt (s_string.F r9))],[],1⟩ ?_
 obtain rfl:=Option.some.inj h
 exact rK [2] [] ⟨[(2,.ps .fopt (s_string.F r9))],[],1⟩ ⟨by kernel_rfl,rfl⟩
theorem tree_Names_all (n : Nat) : tree_Names_spec n:=by
 induction n using Nat.strongRecOn with
 | _ n ih=>exact tree_Names_step n ih
theorem tree_Names_ok {n : Nat} {a0 : Expr} {r : List ByteArray} (h : tree_Names n a0 = some r) : PT Try.prog 22 [eExpr a0] (.ps .fopt (s_string.F r)):=(tree_Names_all n) h
theorem tree_Touches_ok {n : Nat} {a0 : Stmt} {r : List ByteArray} (h : tree_Touches n a0 = some r) : PT Try.prog 16 [eStmt a0] (.ps .fopt (s_string.F r)):=by
 unfold tree_Touches at h
 refine PT_bodyA hT Try.func16 rfl (by kernel_rfl) fun bad w=>?_
 refine Qz hT 2 [1] ⟨[(1,bx 1 0)],[(1,cb 0 39 11 (eStmt a0))],1⟩ ?_
 refine Qzd hT 1 [1,3] [(3,vn)] ?_
 refine WA_seq ?_
 refine Qzd hT 2 [1,3,5] [(5,vi a0.Kind)] ?_
 obtain ⟨J2,hJ2,h⟩:=jsome h
 refine WA_join (fun s=>∃ (l1 : List ByteArray),J2 l1 = some r ∧ s = ⟨[(1,bx 1 0),(3,.ps .fopt (s_string.F l1))],[(1,cb 0 39 11 (eStmt a0))],1⟩) ?_ ?_
 ·refine WA_block ?_
  refine WA_seq ?_
  refine Qzd hT 2 [1,3,5,6] [(6,vb (a0.Kind == 1))] ?_
  obtain ⟨J4,hJ4,h⟩:=jsome h
  refine WA_join (fun s=>∃ (b3 : Bool),J4 b3 = some r ∧ s = ⟨[(1,bx 1 0),(3,vn),(6,vb b3)],[(1,cb 0 39 11 (eStmt a0))],1⟩) ?_ ?_
  ·refine Ci h (fun h=>?_) fun h=>?_
   ·exact sK [1,3,6] [(1,1,0)] ⟨(a0.Kind == 1),h,rfl⟩
   refine Qzd hT 2 [1,3,5,6] [(6,vb (a0.Kind == 4))] ?_
   refine Ci h (fun h=>?_) fun h=>?_
   ·exact sK [1,3,6] [(1,1,0)] ⟨(a0.Kind == 4),h,rfl⟩
   refine Qzd hT 2 [1,3,5,6] [(6,vb (a0.Kind == 6))] ?_
   refine Ci h (fun h=>?_) fun h=>?_
   ·exact sK [1,3,6] [(1,1,0)] ⟨(a0.Kind == 6),h,rfl⟩
   refine Rg hT 2 [1,3,6] ⟨[(1,bx 1 0),(3,vn),(6,vb (a0.Kind == 7))],[(1,cb 0 39 11 (eStmt a0))],1⟩ ?_
   exact oK [1,3,6] [(1,1,0)] ⟨(a0.Kind == 7),h,rfl⟩
  subst hJ4
  rintro s ⟨b3,h,rfl⟩
  skip
  refine Ci h (fun h=>?_) fun h=>?_
  ·refine Rgd hT 2 [1,12] [(12,eExpr a0.E)] ?_
   obtain ⟨r5,hr5,h⟩:=bsome h
   refine Pt' en22 (tree_Names_ok hr5) ?_
   refine Sgd hT 1 [1,3] [(3,.ps .fopt (s_string.F r5))] ?_
   exact oK [1,3] [(1,1,0)] ⟨r5,h,rfl⟩
  refine aW [1,3] ⟨[(1,bx 1 0),(3,vn)],[(1,cb 0 39 11 (eStmt a0))],1⟩ ?_
  refine WA_weak (wL [(1,bx 1 0),(3,.ps .fopt (s_string.F []))] [(1,cb 0 39 11 (eStmt a0))] ⟨VLf.refl _,(VLe.f VLe.nil_fopt rfl),trivial⟩ ⟨rfl,.inl rfl,trivial⟩) ?_
  exact sR [(1,1,0)] ⟨[],h,rfl⟩
 subst hJ2
 rintro s ⟨l1,h,rfl⟩
 refine WA_seq ?_
 refine Qzd hT 2 [1,3,15] [(15,vi a0.Kind)] ?_
 obtain ⟨J7,hJ7,h⟩:=jsome h
 refine WA_join (fun s=>∃ (l6 : List ByteArray),J7 l6 = some r ∧ s = ⟨[(3,po s_string l6)],[],1⟩) ?_ ?_
 ·refine WA_block ?_
  refine Qzd hT 2 [1,3,15,16] [(16,vb (a0.Kind == 1))] ?_
  refine Ci h (fun h=>?_) fun h=>?_
  ·refine Rg hT 4 [18,21] ⟨[(18,.ps .fopt (s_string.F l1)),(21,vs 21 1 s_string [a0.Name])],[(21,⟨1,9,1,false,false,s_string.F [a0.Name]⟩),(1,cb 0 39 11 (eStmt a0))],2⟩ ?_
   obtain ⟨g8,h⟩:=gsome h
   refine One' hT rfl (ev_appendF s_string .fopt l1 [a0.Name] (by decide) (by kernel_rfl) (eO s_string 21 1 true ⟨1,9,1,false,false,s_string.F [a0.Name]⟩ [a0.Name]) (by simp) g8) ?_
   refine Sg hT 1 [3] ⟨[(3,vs 22 2 s_string (l1 ++ [a0.Name]))],[(22,⟨2,9,1,false,false,s_string.F (l1 ++ [a0.Name])⟩),(21,⟨1,9,1,false,false,s_string.F [a0.Name]⟩),(1,cb 0 39 11 (eStmt a0))],3⟩ ?_
   refine oW [3] ⟨[(3,vs 22 2 s_string (l1 ++ [a0.Name]))],[(22,⟨2,9,1,false,false,s_string.F (l1 ++ [a0.Name])⟩),(21,⟨1,9,1,false,false,s_string.F [a0.Name]⟩),(1,cb 0 39 11 (eStmt a0))],3⟩ ?_
   refine WO_weak (wF 22 2 ⟨2,9,1,false,false,s_string.F (l1 ++ [a0.Name])⟩ [(3,po s_string (l1 ++ [a0.Name]))] [(21,⟨1,9,1,false,false,s_string.F [a0.Name]⟩),(1,cb 0 39 11 (eStmt a0))] ⟨rfl,.hit true,trivial⟩ ⟨rfl,.inl rfl,rfl,.inl rfl,trivial⟩) ?_
   exact oR [] ⟨l1 ++ [a0.Name],h,rfl⟩
  refine Qzd hT 2 [1,3,23] [(23,vb (a0.Kind == 5))] ?_
  refine Ci h (fun h=>?_) fun h=>?_
  ·refine Rg hT 4 [25,28] ⟨[(25,.ps .fopt (s_string.F l1)),(28,vs 28 1 s_string [a0.Other])],[(28,⟨1,9,1,false,false,s_string.F [a0.Other]⟩),(1,cb 0 39 11 (eStmt a0))],2⟩ ?_
   obtain ⟨g9,h⟩:=gsome h
   refine One' hT rfl (ev_appendF s_string .fopt l1 [a0.Other] (by decide) (by kernel_rfl) (eO s_string 28 1 true ⟨1,9,1,false,false,s_string.F [a0.Other]⟩ [a0.Other]) (by simp) g9) ?_
   refine Sg hT 1 [3] ⟨[(3,vs 29 2 s_string (l1 ++ [a0.Other]))],[(29,⟨2,9,1,false,false,s_string.F (l1 ++ [a0.Other])⟩),(28,⟨1,9,1,false,false,s_string.F [a0.Other]⟩),(1,cb 0 39 11 (eStmt a0))],3⟩ ?_
   refine oW [3] ⟨[(3,vs 29 2 s_string (l1 ++ [a0.Other]))],[(29,⟨2,9,1,false,false,s_string.F (l1 ++ [a0.Other])⟩),(28,⟨1,9,1,false,false,s_string.F [a0.Other]⟩),(1,cb 0 39 11 (eStmt a0))],3⟩ ?_
   refine WO_weak (wF 29 2 ⟨2,9,1,false,false,s_string.F (l1 ++ [a0.Other])⟩ [(3,po s_string (l1 ++ [a0.Other]))] [(28,⟨1,9,1,false,false,s_string.F [a0.Other]⟩),(1,cb 0 39 11 (eStmt a0))] ⟨rfl,.hit true,trivial⟩ ⟨rfl,.inl rfl,rfl,.inl rfl,trivial⟩) ?_
   exact oR [] ⟨l1 ++ [a0.Other],h,rfl⟩
  refine aW [3] ⟨[(3,.ps .fopt (s_string.F l1))],[(1,cb 0 39 11 (eStmt a0))],1⟩ ?_
  refine WA_weak (wL [(3,po s_string l1)] [(1,cb 0 39 11 (eStmt a0))] ⟨(VLe.f VLe.fopt_opt rfl),trivial⟩ ⟨rfl,.inl rfl,trivial⟩) ?_
  exact sR [] ⟨l1,h,rfl⟩
 subst hJ7
 rintro s ⟨l6,h,rfl⟩
 refine Qg hT 1 [30] ⟨[(30,po s_string l6)],[],1⟩ ?_
 obtain ⟨r10,hr10,h⟩:=bsome h
 refine Pt' en42 (Clip_string_ok hr10) ?_
 refine Sz hT 1 [2] ⟨[(2,.ps .fopt (s_string.F r10))],[],1⟩ ?_
 obtain rfl:=Option.some.inj h
 exact rK [2] [] ⟨[(2,.ps .fopt (s_string.F r10))],[],1⟩ ⟨by kernel_rfl,rfl⟩
def EqualFunc_Expr_ftree_SameExpr_spec (n : Nat) : Prop:=(∀ {a0 : List Expr} {a1 : List Expr} {r : Bool},EqualFunc_Expr_ftree_SameExpr n a0 a1 = some r → PT Try.prog 49 [po s_Expr a0,po s_Expr a1,.fn 34 [] []] (vb r)) ∧ (∀ {a0 : Expr} {a1 : Expr} {r : Bool},tree_SameExpr n a0 a1 = some r → PT Try.prog 34 [eExpr a0,eExpr a1] (vb r))
theorem EqualFunc_Expr_ftree_SameExpr_step (n : Nat) (ih : ∀ m,m < n → EqualFunc_Expr_ftree_SameExpr_spec m) : ∀ {a0 : List Expr} {a1 : List Expr} {r : Bool},EqualFunc_Expr_ftree_SameExpr n a0 a1 = some r → PT Try.prog 49 [po s_Expr a0,po s_Expr a1,.fn 34 [] []] (vb r):=by
 intro a0 a1 r h
 rcases n with _ | n
 ·rw [EqualFunc_Expr_ftree_SameExpr] at h; cases h
 rw [EqualFunc_Expr_ftree_SameExpr] at h
 refine PT_bodyA hT Try.func49 rfl (by kernel_rfl) fun bad w=>?_
 refine Qzd hT 1 [0,1,2] [] ?_
 refine WA_seq ?_
 refine Qgd hT 1 [0,1,2,10] [(10,po s_Expr a0)] ?_
 refine One' hT rfl (v_len s_Expr .opt a0) ?_
 refine Sgd hT 1 [0,1,2,11,12] [(11,vi (ln a0)),(12,po s_Expr a1)] ?_
 refine One' hT rfl (v_len s_Expr .opt a1) ?_
 refine Szd hT 1 [0,1,2,14] [(14,vb ((ln a0) != (ln a1)))] ?_
 refine Ci h (fun h=>?_) fun h=>?_
 ·refine Qz hT 1 [6] ⟨[(6,vb false)],[],0⟩ ?_
  obtain rfl:=Option.some.inj h
  exact rK [6] [] ⟨[(6,vb false)],[],1⟩ ⟨by kernel_rfl,rfl⟩
 refine WA_skip ?_
 refine WA_seq ?_
 refine Qgd hT 1 [1,2,15] [(15,po s_Expr a0)] ?_
 refine One' hT rfl (v_len s_Expr .opt a0) ?_
 refine Szd hT 1 [1,2,15,16,17] [(16,vi (ln a0)),(17,vi 0)] ?_
 refine WA_block ?_
 refine lK [1,2,15,16,17] [] (fun k s=>∃ q,q ≤ k ∧ q ≤ n ∧ ∃ (i1 : Int),EqualFunc_Expr_ftree_SameExpr_L0 q a0 a1 i1 = some r ∧ s = ⟨[(1,po s_Expr a1),(2,.fn 34 [] []),(15,po s_Expr a0),(16,vi (ln a0)),(17,vi i1)],[],1⟩) n ⟨n,Nat.le_refl _,Nat.le_refl _,0,h,rfl⟩ (by rintro s ⟨q,hq,_,i1,h,_⟩; obtain rfl:=Nat.le_zero.1 hq; rw [EqualFunc_Expr_ftree_SameExpr_L0] at h; cases h) ?_
 clear h
 rintro k1 s ⟨q1,hk1,hn1,i1,h,rfl⟩
 rcases q1 with _ | q1
 ·rw [EqualFunc_Expr_ftree_SameExpr_L0] at h; cases h
 rw [EqualFunc_Expr_ftree_SameExpr_L0] at h
 refine Qzd hT 1 [1,2,15,16,17,18] [(18,vb (decide (i1 < (ln a0))))] ?_
 refine WA_seq ?_
 refine Ci h (fun h=>?_) fun h=>?_
 ·refine WA_skip ?_
  refine WA_seq ?_
  refine WA_block ?_
  refine Qgd hT 1 [1,2,15,16,17,19] [(19,vi i1)] ?_
  obtain ⟨x2,hx2,h⟩:=bsome h
  refine One' hT rfl (v_index s_Expr .opt a0 .i64 i1 hx2) ?_
  refine Szh hT 4 [1,2,7,8,15,16,17] [(7,vi i1),(8,bx 8 1)] [(8,cb 1 36 4 (eExpr x2))] 2 ?_
  refine Qgd hT 2 [1,2,8,15,16,17,22,23] [(22,po s_Expr a1),(23,vi i1)] ?_
  obtain ⟨x3,hx3,h⟩:=bsome h
  refine One' hT rfl (v_index s_Expr .opt a1 .i64 i1 hx3) ?_
  refine Szh hT 3 [1,2,8,9,15,16,17] [(9,bx 9 2)] [(9,cb 2 36 4 (eExpr x3)),(8,cb 1 36 4 (eExpr x2))] 3 ?_
  refine Qgd hT 3 [1,2,15,16,17,26,27,28] [(26,.fn 34 [] []),(27,eExpr x2),(28,eExpr x3)] ?_
  obtain ⟨r4,hr4,h⟩:=bsome h
  refine Pt' en34 ((ih _ (by omega)).2 hr4) ?_
  refine Sz hT 1 [1,2,15,16,17,30] ⟨[(1,po s_Expr a1),(2,.fn 34 [] []),(15,po s_Expr a0),(16,vi (ln a0)),(17,vi i1),(30,vb (!r4))],[(9,cb 2 36 4 (eExpr x3)),(8,cb 1 36 4 (eExpr x2))],3⟩ ?_
  refine Ci h (fun h=>?_) fun h=>?_
  ·refine Qzd hT 1 [6] [(6,vb false)] ?_
   obtain rfl:=Option.some.inj h
   exact rK [6] [] ⟨[(6,vb false)],[],1⟩ ⟨by kernel_rfl,rfl⟩
  refine WA_skip ?_
  refine Rgd hT 2 [1,2,15,16,17] [(17,vi (wr (i1 + 1)))] ?_
  exact oK [1,2,15,16,17] [] ⟨_,by omega,by omega,wr (i1 + 1),h,rfl⟩
 refine WA_exit ?_
 refine Qz hT 1 [6] ⟨[(6,vb true)],[],1⟩ ?_
 obtain rfl:=Option.some.inj h
 exact rK [6] [] ⟨[(6,vb true)],[],1⟩ ⟨by kernel_rfl,rfl⟩
theorem tree_SameExpr_step (n : Nat) (ih : ∀ m,m < n → EqualFunc_Expr_ftree_SameExpr_spec m) : ∀ {a0 : Expr} {a1 : Expr} {r : Bool},tree_SameExpr n a0 a1 = some r → PT Try.prog 34 [eExpr a0,eExpr a1] (vb r):=by
 intro a0 a1 r h
 rcases n with _ | n
 ·rw [tree_SameExpr] at h; cases h
 rw [tree_SameExpr] at h
 refine PT_bodyA hT Try.func34 rfl (by kernel_rfl) fun bad w=>?_
 refine Qz hT 3 [2,3] ⟨[(2,bx 2 0),(3,bx 3 1)],[(3,cb 1 36 4 (eExpr a1)),(2,cb 0 36 4 (eExpr a0))],2⟩ ?_
 refine WA_seq ?_
 obtain ⟨J2,hJ2,h⟩:=jsome h
 refine WA_join (fun s=>∃ (b1 : Bool),J2 b1 = some r ∧ s = ⟨[(4,vb b1)],[],1⟩) ?_ ?_
 ·refine Rg hT 6 [2,3,10] ⟨[(2,bx 2 0),(3,bx 3 1),(10,vb (a0.Kind == a1.Kind))],[(3,cb 1 36 4 (eExpr a1)),(2,cb 0 36 4 (eExpr a0))],2⟩ ?_
  cases hb : ((a0.Kind == a1.Kind) : Bool)
  ·replace h:=cfalse hb h
   refine Sgd hT 21 [4] [(4,vb false)] ?_
   exact oK [4] [] ⟨false,h,rfl⟩
  replace h:=ctrue hb h
  refine Sgd hT 7 [2,3,17] [(17,vb (a0.N == a1.N))] ?_
  cases hb : ((a0.N == a1.N) : Bool)
  ·replace h:=cfalse hb h
   refine Sgd hT 14 [4] [(4,vb false)] ?_
   exact oK [4] [] ⟨false,h,rfl⟩
  replace h:=ctrue hb h
  refine Sgd hT 7 [2,3,24] [(24,vb (bytesEq a0.Name a1.Name))] ?_
  cases hb : (bytesEq a0.Name a1.Name : Bool)
  ·replace h:=cfalse hb h
   refine Sgd hT 7 [4] [(4,vb false)] ?_
   exact oK [4] [] ⟨false,h,rfl⟩
  replace h:=ctrue hb h
  refine Sgd hT 4 [24,26,28] [(26,po s_Expr a0.Of),(28,po s_Expr a1.Of)] ?_
  obtain ⟨r3,hr3,h⟩:=bsome h
  refine Pt' en49 ((ih _ (by omega)).1 hr3) ?_
  refine Sgd hT 2 [4] [(4,vb r3)] ?_
  exact oK [4] [] ⟨r3,h,rfl⟩
 subst hJ2
 rintro s ⟨b1,h,rfl⟩
 obtain rfl:=Option.some.inj h
 exact rK [4] [] ⟨[(4,vb b1)],[],1⟩ ⟨by kernel_rfl,rfl⟩
theorem EqualFunc_Expr_ftree_SameExpr_all (n : Nat) : EqualFunc_Expr_ftree_SameExpr_spec n:=by
 induction n using Nat.strongRecOn with
 | _ n ih=>exact ⟨EqualFunc_Expr_ftree_SameExpr_step n ih,tree_SameExpr_step n ih⟩
theorem tree_SameExpr_ok {n : Nat} {a0 : Expr} {a1 : Expr} {r : Bool} (h : tree_SameExpr n a0 a1 = some r) : PT Try.prog 34 [eExpr a0,eExpr a1] (vb r):=(EqualFunc_Expr_ftree_SameExpr_all n).2 h
theorem law3_known_ok {n : Nat} {r : Bool} (h : law3_known n = some r) : PT Try.prog 10 [] (vb r):=by
 unfold law3_known at h
 refine PT_bodyA hT Try.func10 rfl (by kernel_rfl) fun bad w=>?_
 refine Qz hT 1 [] ⟨[],[],0⟩ ?_
 refine WA_seq ?_
 refine WA_region ?_
 obtain ⟨r1,hr1,h⟩:=bsome h
 refine Pt' en15 (law3_name_ok hr1) ?_
 obtain ⟨r2,hr2,h⟩:=bsome h
 refine Pt' en15 (law3_name_ok hr2) ?_
 refine Sg hT 0 [3,4] ⟨[(3,eExpr r1),(4,eExpr r2)],[],0⟩ ?_
 refine One' hT rfl (ev_bslice s_Expr 5 [r1,r2] (by kernel_rfl)) ?_
 refine Sg hT 0 [5] ⟨[(5,vs 5 0 s_Expr [r1,r2])],[(5,⟨0,36,4,false,false,s_Expr.F [r1,r2]⟩)],1⟩ ?_
 refine WO_weak (wF 5 0 ⟨0,36,4,false,false,s_Expr.F [r1,r2]⟩ [(5,po s_Expr [r1,r2])] [] ⟨rfl,.hit true,trivial⟩ trivial) ?_
 refine Sz hT 4 [1] ⟨[(1,bx 1 1)],[(1,cb 1 39 11 (.agg [vi 1,vw k_x,vw b0,vi 0,vi 4,vi 0,vw b0,po s_Expr [r1,r2],vn,vn,vz c0]))],2⟩ ?_
 refine Qgd hT 1 [1,8] [(8,.agg [vi 1,vw k_x,vw b0,vi 0,vi 4,vi 0,vw b0,po s_Expr [r1,r2],vn,vn,vz c0])] ?_
 obtain ⟨r3,hr3,h⟩:=bsome h
 refine Pt' (vs:=[.agg [vi 1,vw k_x,vw b0,vi 0,vi 4,vi 0,vw b0,po s_Expr [r1,r2],vn,vn,vz c0]]) en16 (PT_args ((tree_Touches_ok hr3)) ⟨VLe.agg ⟨VLe.refl _,VLe.refl _,VLe.refl _,VLe.refl _,VLe.refl _,VLe.refl _,VLe.refl _,VLe.refl _,VLe.nil_opt,VLe.nil_opt,VLe.refl _,trivial⟩,trivial⟩) ?_
 refine Szd hT 1 [1,2] [(2,.ps .fopt (s_string.F r3))] ?_
 refine WA_seq ?_
 obtain ⟨J5,hJ5,h⟩:=jsome h
 refine WA_join (fun s=>∃ (b4 : Bool),J5 b4 = some r ∧ s = ⟨[(0,vb b4)],[],1⟩) ?_ ?_
 ·refine WA_drawW hT hM (by kernel_rfl) ?_
  refine Ds 1 [(10,.ps .fopt (s_string.F r3))] [] [] ?_
  refine Dl rfl (v_len s_string .fopt r3) ?_
  refine Dt (vi (ln r3)) ?_
  refine Ds 2 [(13,vb ((ln r3) == 3)),(12,vb ((ln r3) == 3))] [] [] ?_
  cases hb : (((ln r3) == 3) : Bool)
  ·replace h:=cfalse hb h
   refine Ds 32 [(0,vb false),(44,vb false),(43,vU),(42,vU),(41,vU),(40,vU),(39,vU),(38,vb false),(37,vb false),(36,vU),(35,vU),(34,vU),(33,vU),(32,vU),(31,vb false),(30,vb false),(29,vU),(28,vU),(27,vU),(26,vU),(25,vb false),(24,vb false),(23,vU),(22,vU),(21,vU),(20,vU),(19,vb false),(18,vb false),(17,vU),(16,vU),(15,vU),(14,vU)] [] [] ?_
   refine De ?_
   exact wK [0] [] ⟨false,h,rfl⟩
  replace h:=ctrue hb h
  refine Ds 1 [(14,.ps .fopt (s_string.F r3))] [] [] ?_
  obtain ⟨x6,hx6,h⟩:=bsome h
  refine Dl rfl (v_index s_string .fopt r3 .i64 0 hx6) ?_
  refine Dt (.ref (e_s x6) 0) ?_
  refine Ds 4 [(19,vb (bytesEq x6 k_y)),(18,vb (bytesEq x6 k_y)),(17,vb (bytesEq x6 k_y)),(16,vw x6)] [] [] ?_
  cases hb : (bytesEq x6 k_y : Bool)
  ·replace h:=cfalse hb h
   refine Ds 26 [(0,vb false),(44,vb false),(43,vU),(42,vU),(41,vU),(40,vU),(39,vU),(38,vb false),(37,vb false),(36,vU),(35,vU),(34,vU),(33,vU),(32,vU),(31,vb false),(30,vb false),(29,vU),(28,vU),(27,vU),(26,vU),(25,vb false),(24,vb false),(23,vU),(22,vU),(21,vU),(20,vU)] [] [] ?_
   refine De ?_
   exact wK [0] [] ⟨false,h,rfl⟩
  replace h:=ctrue hb h
  refine Ds 1 [(20,.ps .fopt (s_string.F r3))] [] [] ?_
  obtain ⟨x7,hx7,h⟩:=bsome h
  refine Dl rfl (v_index s_string .fopt r3 .i64 1 hx7) ?_
  refine Dt (.ref (e_s x7) 0) ?_
  refine Ds 4 [(25,vb (bytesEq x7 k_x)),(24,vb (bytesEq x7 k_x)),(23,vb (bytesEq x7 k_x)),(22,vw x7)] [] [] ?_
  cases hb : (bytesEq x7 k_x : Bool)
  ·replace h:=cfalse hb h
   refine Ds 20 [(0,vb false),(44,vb false),(43,vU),(42,vU),(41,vU),(40,vU),(39,vU),(38,vb false),(37,vb false),(36,vU),(35,vU),(34,vU),(33,vU),(32,vU),(31,vb false),(30,vb false),(29,vU),(28,vU),(27,vU),(26,vU)] [] [] ?_
   refine De ?_
   exact wK [0] [] ⟨false,h,rfl⟩
  replace h:=ctrue hb h
  refine Ds 1 [(26,.ps .fopt (s_string.F r3))] [] [] ?_
  obtain ⟨x8,hx8,h⟩:=bsome h
  refine Dl rfl (v_index s_string .fopt r3 .i64 2 hx8) ?_
  refine Dt (.ref (e_s x8) 0) ?_
  refine Ds 4 [(31,vb (bytesEq x8 k_x)),(30,vb (bytesEq x8 k_x)),(29,vb (bytesEq x8 k_x)),(28,vw x8)] [] [] ?_
  cases hb : (bytesEq x8 k_x : Bool)
  ·replace h:=cfalse hb h
   refine Ds 14 [(0,vb false),(44,vb false),(43,vU),(42,vU),(41,vU),(40,vU),(39,vU),(38,vb false),(37,vb false),(36,vU),(35,vU),(34,vU),(33,vU),(32,vU)] [] [] ?_
   refine De ?_
   exact wK [0] [] ⟨false,h,rfl⟩
  replace h:=ctrue hb h
  refine Ds 4 [(35,.agg [vi 4,vi 0,vw b0,po s_Expr [r1,r2]]),(34,.box 1 1 0 4),(33,.agg [vi 4,vi 0,vw b0,po s_Expr [r1,r2]]),(32,.box 1 1 0 4)] [] [(22,[1]),(23,[1]),(24,[1]),(25,[1])] ?_
  obtain ⟨r9,hr9,h⟩:=bsome h
  refine Dp [.agg [vi 4,vi 0,vw b0,po s_Expr [r1,r2]],.agg [vi 4,vi 0,vw b0,po s_Expr [r1,r2]]] (vb r9) en34 (PT_args ((tree_SameExpr_ok hr9)) ⟨VLe.agg ⟨VLe.refl _,VLe.refl _,VLe.refl _,VLe.refl _,trivial⟩,VLe.agg ⟨VLe.refl _,VLe.refl _,VLe.refl _,VLe.refl _,trivial⟩,trivial⟩) ?_
  refine Ds 2 [(38,vb r9),(37,vb r9)] [] [] ?_
  cases hb : (r9 : Bool)
  ·replace h:=cfalse hb h
   refine Ds 7 [(0,vb false),(44,vb false),(43,vU),(42,vU),(41,vU),(40,vU),(39,vU)] [] [] ?_
   refine De ?_
   exact wK [0] [] ⟨false,h,rfl⟩
  replace h:=ctrue hb h
  refine Ds 2 [(40,.agg [vi 4,vi 0,vw b0,po s_Expr [r1,r2]]),(39,.box 1 1 0 4)] [] [(29,[1]),(30,[1])] ?_
  obtain ⟨r10,hr10,h⟩:=bsome h
  refine Dp [vw k_y] (eExpr r10) en15 (law3_name_ok hr10) ?_
  obtain ⟨r11,hr11,h⟩:=bsome h
  refine Dp [.agg [vi 4,vi 0,vw b0,po s_Expr [r1,r2]],eExpr r10] (vb r11) en34 (PT_args ((tree_SameExpr_ok hr11)) ⟨VLe.agg ⟨VLe.refl _,VLe.refl _,VLe.refl _,VLe.refl _,trivial⟩,VLe.refl _,trivial⟩) ?_
  refine Ds 3 [(0,vb (!r11)),(44,vb (!r11)),(43,vb (!r11))] [] [] ?_
  refine De ?_
  exact wK [0] [] ⟨!r11,h,rfl⟩
 subst hJ5
 rintro s ⟨b4,h,rfl⟩
 obtain rfl:=Option.some.inj h
 exact rK [0] [] ⟨[(0,vb b4)],[],1⟩ ⟨by kernel_rfl,rfl⟩
theorem tree_Same_1_ok {n : Nat} {a0 : Decl} {a1 : Decl} {r : Bool} (h : tree_Same_1 n a0 a1 = some r) : PT Try.prog 35 [eDecl a0,eDecl a1] (vb r):=by
 unfold tree_Same_1 at h
 refine PT_bodyA hT Try.func35 rfl (by kernel_rfl) fun bad w=>?_
 refine Qz hT 3 [2,3] ⟨[(2,bx 2 0),(3,bx 3 1)],[(3,cb 1 42 4 (eDecl a1)),(2,cb 0 42 4 (eDecl a0))],2⟩ ?_
 refine WA_seq ?_
 obtain ⟨J2,hJ2,h⟩:=jsome h
 refine WA_join (fun s=>∃ (b1 : Bool),J2 b1 = some r ∧ s = ⟨[(4,vb b1)],[],1⟩) ?_ ?_
 ·refine Rgd hT 6 [2,3,10] [(10,vb (a0.Kind == a1.Kind))] ?_
  cases hb : ((a0.Kind == a1.Kind) : Bool)
  ·replace h:=cfalse hb h
   refine Sgd hT 14 [4] [(4,vb false)] ?_
   exact oK [4] [] ⟨false,h,rfl⟩
  replace h:=ctrue hb h
  refine Sgd hT 7 [2,3,17] [(17,vb (bytesEq a0.Name a1.Name))] ?_
  cases hb : (bytesEq a0.Name a1.Name : Bool)
  ·replace h:=cfalse hb h
   refine Sg hT 7 [4] ⟨[(4,vb false)],[(3,cb 1 42 4 (eDecl a1)),(2,cb 0 42 4 (eDecl a0))],2⟩ ?_
   exact oK [4] [] ⟨false,h,rfl⟩
  replace h:=ctrue hb h
  refine Sgd hT 7 [4] [(4,vb (a0.N == a1.N))] ?_
  exact oK [4] [] ⟨(a0.N == a1.N),h,rfl⟩
 subst hJ2
 rintro s ⟨b1,h,rfl⟩
 obtain rfl:=Option.some.inj h
 exact rK [4] [] ⟨[(4,vb b1)],[],1⟩ ⟨by kernel_rfl,rfl⟩
theorem EqualFunc_Decl_ftree_Same_1_ok {n : Nat} {a0 : List Decl} {a1 : List Decl} {r : Bool} (h : EqualFunc_Decl_ftree_Same_1 n a0 a1 = some r) : PT Try.prog 36 [po s_Decl a0,po s_Decl a1,.fn 35 [] []] (vb r):=by
 unfold EqualFunc_Decl_ftree_Same_1 at h
 refine PT_bodyA hT Try.func36 rfl (by kernel_rfl) fun bad w=>?_
 refine Qzd hT 1 [0,1,2] [] ?_
 refine WA_seq ?_
 refine Qgd hT 1 [0,1,2,10] [(10,po s_Decl a0)] ?_
 refine One' hT rfl (v_len s_Decl .opt a0) ?_
 refine Sgd hT 1 [0,1,2,11,12] [(11,vi (ln a0)),(12,po s_Decl a1)] ?_
 refine One' hT rfl (v_len s_Decl .opt a1) ?_
 refine Szd hT 1 [0,1,2,14] [(14,vb ((ln a0) != (ln a1)))] ?_
 refine Ci h (fun h=>?_) fun h=>?_
 ·refine Qz hT 1 [6] ⟨[(6,vb false)],[],0⟩ ?_
  obtain rfl:=Option.some.inj h
  exact rK [6] [] ⟨[(6,vb false)],[],1⟩ ⟨by kernel_rfl,rfl⟩
 refine WA_skip ?_
 refine WA_seq ?_
 refine Qgd hT 1 [1,2,15] [(15,po s_Decl a0)] ?_
 refine One' hT rfl (v_len s_Decl .opt a0) ?_
 refine Szd hT 1 [1,2,15,16,17] [(16,vi (ln a0)),(17,vi 0)] ?_
 refine WA_block ?_
 refine lK [1,2,15,16,17] [] (fun k s=>∃ q,q ≤ k ∧ q ≤ n ∧ ∃ (i1 : Int),EqualFunc_Decl_ftree_Same_1_L0 q a0 a1 i1 = some r ∧ s = ⟨[(1,po s_Decl a1),(2,.fn 35 [] []),(15,po s_Decl a0),(16,vi (ln a0)),(17,vi i1)],[],1⟩) n ⟨n,Nat.le_refl _,Nat.le_refl _,0,h,rfl⟩ (by rintro s ⟨q,hq,_,i1,h,_⟩; obtain rfl:=Nat.le_zero.1 hq; rw [EqualFunc_Decl_ftree_Same_1_L0] at h; cases h) ?_
 clear h
 rintro k1 s ⟨q1,hk1,hn1,i1,h,rfl⟩
 rcases q1 with _ | q1
 ·rw [EqualFunc_Decl_ftree_Same_1_L0] at h; cases h
 rw [EqualFunc_Decl_ftree_Same_1_L0] at h
 refine Qzd hT 1 [1,2,15,16,17,18] [(18,vb (decide (i1 < (ln a0))))] ?_
 refine WA_seq ?_
 refine Ci h (fun h=>?_) fun h=>?_
 ·refine WA_skip ?_
  refine WA_seq ?_
  refine WA_block ?_
  refine Qgd hT 1 [1,2,15,16,17,19] [(19,vi i1)] ?_
  obtain ⟨x2,hx2,h⟩:=bsome h
  refine One' hT rfl (v_index s_Decl .opt a0 .i64 i1 hx2) ?_
  refine Szh hT 4 [1,2,7,8,15,16,17] [(7,vi i1),(8,bx 8 1)] [(8,cb 1 42 4 (eDecl x2))] 2 ?_
  refine Qgd hT 2 [1,2,8,15,16,17,22,23] [(22,po s_Decl a1),(23,vi i1)] ?_
  obtain ⟨x3,hx3,h⟩:=bsome h
  refine One' hT rfl (v_index s_Decl .opt a1 .i64 i1 hx3) ?_
  refine Szh hT 3 [1,2,8,9,15,16,17] [(9,bx 9 2)] [(9,cb 2 42 4 (eDecl x3)),(8,cb 1 42 4 (eDecl x2))] 3 ?_
  refine Qgd hT 3 [1,2,15,16,17,26,27,28] [(26,.fn 35 [] []),(27,eDecl x2),(28,eDecl x3)] ?_
  obtain ⟨r4,hr4,h⟩:=bsome h
  refine Pt' en35 (tree_Same_1_ok hr4) ?_
  refine Sz hT 1 [1,2,15,16,17,30] ⟨[(1,po s_Decl a1),(2,.fn 35 [] []),(15,po s_Decl a0),(16,vi (ln a0)),(17,vi i1),(30,vb (!r4))],[(9,cb 2 42 4 (eDecl x3)),(8,cb 1 42 4 (eDecl x2))],3⟩ ?_
  refine Ci h (fun h=>?_) fun h=>?_
  ·refine Qzd hT 1 [6] [(6,vb false)] ?_
   obtain rfl:=Option.some.inj h
   exact rK [6] [] ⟨[(6,vb false)],[],1⟩ ⟨by kernel_rfl,rfl⟩
  refine WA_skip ?_
  refine Rgd hT 2 [1,2,15,16,17] [(17,vi (wr (i1 + 1)))] ?_
  exact oK [1,2,15,16,17] [] ⟨_,by omega,by omega,wr (i1 + 1),h,rfl⟩
 refine WA_exit ?_
 refine Qz hT 1 [6] ⟨[(6,vb true)],[],1⟩ ?_
 obtain rfl:=Option.some.inj h
 exact rK [6] [] ⟨[(6,vb true)],[],1⟩ ⟨by kernel_rfl,rfl⟩
def tree_sameStmt_spec (n : Nat) : Prop:=(∀ {a0 : Stmt} {a1 : Stmt} {r : Bool},tree_sameStmt n a0 a1 = some r → PT Try.prog 51 [eStmt a0,eStmt a1] (vb r)) ∧ (∀ {a0 : List Stmt} {a1 : List Stmt} {r : Bool},EqualFunc_Stmt_ftree_sameStmt n a0 a1 = some r → PT Try.prog 50 [po s_Stmt a0,po s_Stmt a1,.fn 51 [] []] (vb r)) ∧ (∀ {a0 : List Stmt} {a1 : List Stmt} {r : Bool},tree_sameBlock n a0 a1 = some r → PT Try.prog 38 [po s_Stmt a0,po s_Stmt a1] (vb r))
theorem tree_sameStmt_step (n : Nat) (ih : ∀ m,m < n → tree_sameStmt_spec m) : ∀ {a0 : Stmt} {a1 : Stmt} {r : Bool},tree_sameStmt n a0 a1 = some r → PT Try.prog 51 [eStmt a0,eStmt a1] (vb r):=by
 intro a0 a1 r h
 rcases n with _ | n
 ·rw [tree_sameStmt] at h; cases h
 rw [tree_sameStmt] at h
 refine PT_bodyA hT Try.func51 rfl (by kernel_rfl) fun bad w=>?_
 refine Qz hT 3 [2,3] ⟨[(2,bx 2 0),(3,bx 3 1)],[(3,cb 1 39 11 (eStmt a1)),(2,cb 0 39 11 (eStmt a0))],2⟩ ?_
 refine WA_seq ?_
 obtain ⟨J2,hJ2,h⟩:=jsome h
 refine WA_join (fun s=>∃ (b1 : Bool),J2 b1 = some r ∧ s = ⟨[(4,vb b1)],[],1⟩) ?_ ?_
 ·refine Rgd hT 6 [2,3,10] [(10,vb (a0.Kind == a1.Kind))] ?_
  cases hb : ((a0.Kind == a1.Kind) : Bool)
  ·replace h:=cfalse hb h
   refine Sg hT 42 [4] ⟨[(4,vb false)],[(3,cb 1 39 11 (eStmt a1)),(2,cb 0 39 11 (eStmt a0))],2⟩ ?_
   exact oK [4] [] ⟨false,h,rfl⟩
  replace h:=ctrue hb h
  refine Sgd hT 7 [2,3,17] [(17,vb (bytesEq a0.Name a1.Name))] ?_
  cases hb : (bytesEq a0.Name a1.Name : Bool)
  ·replace h:=cfalse hb h
   refine Sgd hT 35 [4] [(4,vb false)] ?_
   exact oK [4] [] ⟨false,h,rfl⟩
  replace h:=ctrue hb h
  refine Sgd hT 7 [2,3,24] [(24,vb (bytesEq a0.Other a1.Other))] ?_
  cases hb : (bytesEq a0.Other a1.Other : Bool)
  ·replace h:=cfalse hb h
   refine Sgd hT 28 [4] [(4,vb false)] ?_
   exact oK [4] [] ⟨false,h,rfl⟩
  replace h:=ctrue hb h
  refine Sgd hT 7 [2,3,31] [(31,vb (a0.N == a1.N))] ?_
  cases hb : ((a0.N == a1.N) : Bool)
  ·replace h:=cfalse hb h
   refine Sgd hT 21 [4] [(4,vb false)] ?_
   exact oK [4] [] ⟨false,h,rfl⟩
  replace h:=ctrue hb h
  refine Sgd hT 4 [2,3,31,33,35] [(33,eExpr a0.E),(35,eExpr a1.E)] ?_
  obtain ⟨r3,hr3,h⟩:=bsome h
  refine Pt' en34 (tree_SameExpr_ok hr3) ?_
  refine Sgd hT 2 [2,3,38] [(38,vb r3)] ?_
  cases hb : (r3 : Bool)
  ·replace h:=cfalse hb h
   refine Sg hT 14 [4] ⟨[(4,vb false)],[(3,cb 1 39 11 (eStmt a1)),(2,cb 0 39 11 (eStmt a0))],2⟩ ?_
   exact oK [4] [] ⟨false,h,rfl⟩
  replace h:=ctrue hb h
  refine Sgd hT 4 [2,3,38,40,42] [(40,po s_Stmt a0.Body),(42,po s_Stmt a1.Body)] ?_
  obtain ⟨r4,hr4,h⟩:=bsome h
  refine Pt' en38 ((ih _ (by omega)).2.2 hr4) ?_
  refine Sgd hT 2 [2,3,45] [(45,vb r4)] ?_
  cases hb : (r4 : Bool)
  ·replace h:=cfalse hb h
   refine Sgd hT 7 [4] [(4,vb false)] ?_
   exact oK [4] [] ⟨false,h,rfl⟩
  replace h:=ctrue hb h
  refine Sgd hT 4 [45,47,49] [(47,po s_Stmt a0.Else),(49,po s_Stmt a1.Else)] ?_
  obtain ⟨r5,hr5,h⟩:=bsome h
  refine Pt' en38 ((ih _ (by omega)).2.2 hr5) ?_
  refine Sgd hT 2 [4] [(4,vb r5)] ?_
  exact oK [4] [] ⟨r5,h,rfl⟩
 subst hJ2
 rintro s ⟨b1,h,rfl⟩
 obtain rfl:=Option.some.inj h
 exact rK [4] [] ⟨[(4,vb b1)],[],1⟩ ⟨by kernel_rfl,rfl⟩
theorem EqualFunc_Stmt_ftree_sameStmt_step (n : Nat) (ih : ∀ m,m < n → tree_sameStmt_spec m) : ∀ {a0 : List Stmt} {a1 : List Stmt} {r : Bool},EqualFunc_Stmt_ftree_sameStmt n a0 a1 = some r → PT Try.prog 50 [po s_Stmt a0,po s_Stmt a1,.fn 51 [] []] (vb r):=by
 intro a0 a1 r h
 rcases n with _ | n
 ·rw [EqualFunc_Stmt_ftree_sameStmt] at h; cases h
 rw [EqualFunc_Stmt_ftree_sameStmt] at h
 refine PT_bodyA hT Try.func50 rfl (by kernel_rfl) fun bad w=>?_
 refine Qzd hT 1 [0,1,2] [] ?_
 refine WA_seq ?_
 refine Qgd hT 1 [0,1,2,10] [(10,po s_Stmt a0)] ?_
 refine One' hT rfl (v_len s_Stmt .opt a0) ?_
 refine Sgd hT 1 [0,1,2,11,12] [(11,vi (ln a0)),(12,po s_Stmt a1)] ?_
 refine One' hT rfl (v_len s_Stmt .opt a1) ?_
 refine Szd hT 1 [0,1,2,14] [(14,vb ((ln a0) != (ln a1)))] ?_
 refine Ci h (fun h=>?_) fun h=>?_
 ·refine Qz hT 1 [6] ⟨[(6,vb false)],[],0⟩ ?_
  obtain rfl:=Option.some.inj h
  exact rK [6] [] ⟨[(6,vb false)],[],1⟩ ⟨by kernel_rfl,rfl⟩
 refine WA_skip ?_
 refine WA_seq ?_
 refine Qgd hT 1 [1,2,15] [(15,po s_Stmt a0)] ?_
 refine One' hT rfl (v_len s_Stmt .opt a0) ?_
 refine Szd hT 1 [1,2,15,16,17] [(16,vi (ln a0)),(17,vi 0)] ?_
 refine WA_block ?_
 refine lK [1,2,15,16,17] [] (fun k s=>∃ q,q ≤ k ∧ q ≤ n ∧ ∃ (i1 : Int),EqualFunc_Stmt_ftree_sameStmt_L0 q a0 a1 i1 = some r ∧ s = ⟨[(1,po s_Stmt a1),(2,.fn 51 [] []),(15,po s_Stmt a0),(16,vi (ln a0)),(17,vi i1)],[],1⟩) n ⟨n,Nat.le_refl _,Nat.le_refl _,0,h,rfl⟩ (by rintro s ⟨q,hq,_,i1,h,_⟩; obtain rfl:=Nat.le_zero.1 hq; rw [EqualFunc_Stmt_ftree_sameStmt_L0] at h; cases h) ?_
 clear h
 rintro k1 s ⟨q1,hk1,hn1,i1,h,rfl⟩
 rcases q1 with _ | q1
 ·rw [EqualFunc_Stmt_ftree_sameStmt_L0] at h; cases h
 rw [EqualFunc_Stmt_ftree_sameStmt_L0] at h
 refine Qzd hT 1 [1,2,15,16,17,18] [(18,vb (decide (i1 < (ln a0))))] ?_
 refine WA_seq ?_
 refine Ci h (fun h=>?_) fun h=>?_
 ·refine WA_skip ?_
  refine WA_seq ?_
  refine WA_block ?_
  refine Qgd hT 1 [1,2,15,16,17,19] [(19,vi i1)] ?_
  obtain ⟨x2,hx2,h⟩:=bsome h
  refine One' hT rfl (v_index s_Stmt .opt a0 .i64 i1 hx2) ?_
  refine Szh hT 4 [1,2,7,8,15,16,17] [(7,vi i1),(8,bx 8 1)] [(8,cb 1 39 11 (eStmt x2))] 2 ?_
  refine Qgd hT 2 [1,2,8,15,16,17,22,23] [(22,po s_Stmt a1),(23,vi i1)] ?_
  obtain ⟨x3,hx3,h⟩:=bsome h
  refine One' hT rfl (v_index s_Stmt .opt a1 .i64 i1 hx3) ?_
  refine Szh hT 3 [1,2,8,9,15,16,17] [(9,bx 9 2)] [(9,cb 2 39 11 (eStmt x3)),(8,cb 1 39 11 (eStmt x2))] 3 ?_
  refine Qgd hT 3 [1,2,15,16,17,26,27,28] [(26,.fn 51 [] []),(27,eStmt x2),(28,eStmt x3)] ?_
  obtain ⟨r4,hr4,h⟩:=bsome h
  refine Pt' en51 ((ih _ (by omega)).1 hr4) ?_
  refine Sz hT 1 [1,2,15,16,17,30] ⟨[(1,po s_Stmt a1),(2,.fn 51 [] []),(15,po s_Stmt a0),(16,vi (ln a0)),(17,vi i1),(30,vb (!r4))],[(9,cb 2 39 11 (eStmt x3)),(8,cb 1 39 11 (eStmt x2))],3⟩ ?_
  refine Ci h (fun h=>?_) fun h=>?_
  ·refine Qzd hT 1 [6] [(6,vb false)] ?_
   obtain rfl:=Option.some.inj h
   exact rK [6] [] ⟨[(6,vb false)],[],1⟩ ⟨by kernel_rfl,rfl⟩
  refine WA_skip ?_
  refine Rgd hT 2 [1,2,15,16,17] [(17,vi (wr (i1 + 1)))] ?_
  exact oK [1,2,15,16,17] [] ⟨_,by omega,by omega,wr (i1 + 1),h,rfl⟩
 refine WA_exit ?_
 refine Qz hT 1 [6] ⟨[(6,vb true)],[],1⟩ ?_
 obtain rfl:=Option.some.inj h
 exact rK [6] [] ⟨[(6,vb true)],[],1⟩ ⟨by kernel_rfl,rfl⟩
theorem tree_sameBlock_step (n : Nat) (ih : ∀ m,m < n → tree_sameStmt_spec m) : ∀ {a0 : List Stmt} {a1 : List Stmt} {r : Bool},tree_sameBlock n a0 a1 = some r → PT Try.prog 38 [po s_Stmt a0,po s_Stmt a1] (vb r):=by
 intro a0 a1 r h
 rcases n with _ | n
 ·rw [tree_sameBlock] at h; cases h
 rw [tree_sameBlock] at h
 refine PT_bodyA hT Try.func38 rfl (by kernel_rfl) fun bad w=>?_
 refine Qzd hT 1 [0,1] [] ?_
 refine Qg hT 2 [5,6] ⟨[(5,po s_Stmt a0),(6,po s_Stmt a1)],[],0⟩ ?_
 obtain ⟨r1,hr1,h⟩:=bsome h
 refine Pt' en50 ((ih _ (by omega)).2.1 hr1) ?_
 refine Sz hT 1 [4] ⟨[(4,vb r1)],[],0⟩ ?_
 obtain rfl:=Option.some.inj h
 exact rK [4] [] ⟨[(4,vb r1)],[],1⟩ ⟨by kernel_rfl,rfl⟩
theorem tree_sameStmt_all (n : Nat) : tree_sameStmt_spec n:=by
 induction n using Nat.strongRecOn with
 | _ n ih=>exact ⟨tree_sameStmt_step n ih,EqualFunc_Stmt_ftree_sameStmt_step n ih,tree_sameBlock_step n ih⟩
theorem tree_sameBlock_ok {n : Nat} {a0 : List Stmt} {a1 : List Stmt} {r : Bool} (h : tree_sameBlock n a0 a1 = some r) : PT Try.prog 38 [po s_Stmt a0,po s_Stmt a1] (vb r):=(tree_sameStmt_all n).2.2 h
theorem EqualFunc_LStmt_ftree_sameBlock_ok {n : Nat} {a0 : List (List Stmt)} {a1 : List (List Stmt)} {r : Bool} (h : EqualFunc_LStmt_ftree_sameBlock n a0 a1 = some r) : PT Try.prog 37 [po s_LStmt a0,po s_LStmt a1,.fn 38 [] []] (vb r):=by
 unfold EqualFunc_LStmt_ftree_sameBlock at h
 refine PT_bodyA hT Try.func37 rfl (by kernel_rfl) fun bad w=>?_
 refine Qzd hT 1 [0,1,2] [] ?_
 refine WA_seq ?_
 refine Qgd hT 1 [0,1,2,10] [(10,po s_LStmt a0)] ?_
 refine One' hT rfl (v_len s_LStmt .opt a0) ?_
 refine Sgd hT 1 [0,1,2,11,12] [(11,vi (ln a0)),(12,po s_LStmt a1)] ?_
 refine One' hT rfl (v_len s_LStmt .opt a1) ?_
 refine Szd hT 1 [0,1,2,14] [(14,vb ((ln a0) != (ln a1)))] ?_
 refine Ci h (fun h=>?_) fun h=>?_
 ·refine Qz hT 1 [6] ⟨[(6,vb false)],[],0⟩ ?_
  obtain rfl:=Option.some.inj h
  exact rK [6] [] ⟨[(6,vb false)],[],1⟩ ⟨by kernel_rfl,rfl⟩
 refine WA_skip ?_
 refine WA_seq ?_
 refine Qgd hT 1 [1,2,15] [(15,po s_LStmt a0)] ?_
 refine One' hT rfl (v_len s_LStmt .opt a0) ?_
 refine Szd hT 1 [1,2,15,16,17] [(16,vi (ln a0)),(17,vi 0)] ?_
 refine WA_block ?_
 refine lK [1,2,15,16,17] [] (fun k s=>∃ q,q ≤ k ∧ q ≤ n ∧ ∃ (i1 : Int),EqualFunc_LStmt_ftree_sameBlock_L0 q a0 a1 i1 = some r ∧ s = ⟨[(1,po s_LStmt a1),(2,.fn 38 [] []),(15,po s_LStmt a0),(16,vi (ln a0)),(17,vi i1)],[],1⟩) n ⟨n,Nat.le_refl _,Nat.le_refl _,0,h,rfl⟩ (by rintro s ⟨q,hq,_,i1,h,_⟩; obtain rfl:=Nat.le_zero.1 hq; rw [EqualFunc_LStmt_ftree_sameBlock_L0] at h; cases h) ?_
 clear h
 rintro k1 s ⟨q1,hk1,hn1,i1,h,rfl⟩
 rcases q1 with _ | q1
 ·rw [EqualFunc_LStmt_ftree_sameBlock_L0] at h; cases h
 rw [EqualFunc_LStmt_ftree_sameBlock_L0] at h
 refine Qzd hT 1 [1,2,15,16,17,18] [(18,vb (decide (i1 < (ln a0))))] ?_
 refine WA_seq ?_
 refine Ci h (fun h=>?_) fun h=>?_
 ·refine WA_skip ?_
  refine WA_seq ?_
  refine WA_block ?_
  refine Qgd hT 1 [1,2,15,16,17,19] [(19,vi i1)] ?_
  obtain ⟨x2,hx2,h⟩:=bsome h
  refine One' hT rfl (v_index s_LStmt .opt a0 .i64 i1 hx2) ?_
  refine Szd hT 3 [1,2,7,8,15,16,17] [(7,vi i1),(8,po s_Stmt x2)] ?_
  refine Qgd hT 2 [1,2,8,15,16,17,22,23] [(22,po s_LStmt a1),(23,vi i1)] ?_
  obtain ⟨x3,hx3,h⟩:=bsome h
  refine One' hT rfl (v_index s_LStmt .opt a1 .i64 i1 hx3) ?_
  refine Szd hT 2 [1,2,8,9,15,16,17] [(9,po s_Stmt x3)] ?_
  refine Qgd hT 3 [1,2,15,16,17,26,27,28] [(26,.fn 38 [] []),(27,po s_Stmt x2),(28,po s_Stmt x3)] ?_
  obtain ⟨r4,hr4,h⟩:=bsome h
  refine Pt' en38 (tree_sameBlock_ok hr4) ?_
  refine Szd hT 1 [1,2,15,16,17,30] [(30,vb (!r4))] ?_
  refine Ci h (fun h=>?_) fun h=>?_
  ·refine Qz hT 1 [6] ⟨[(6,vb false)],[],1⟩ ?_
   obtain rfl:=Option.some.inj h
   exact rK [6] [] ⟨[(6,vb false)],[],1⟩ ⟨by kernel_rfl,rfl⟩
  refine WA_skip ?_
  refine Rgd hT 2 [1,2,15,16,17] [(17,vi (wr (i1 + 1)))] ?_
  exact oK [1,2,15,16,17] [] ⟨_,by omega,by omega,wr (i1 + 1),h,rfl⟩
 refine WA_exit ?_
 refine Qz hT 1 [6] ⟨[(6,vb true)],[],1⟩ ?_
 obtain rfl:=Option.some.inj h
 exact rK [6] [] ⟨[(6,vb true)],[],1⟩ ⟨by kernel_rfl,rfl⟩
theorem tree_Same_ok {n : Nat} {a0 : Prog} {a1 : Prog} {r : Bool} (h : tree_Same n a0 a1 = some r) : PT Try.prog 11 [eProg a0,eProg a1] (vb r):=by
 unfold tree_Same at h
 refine PT_bodyA hT Try.func11 rfl (by kernel_rfl) fun bad w=>?_
 refine Qz hT 3 [2,3] ⟨[(2,bx 2 0),(3,bx 3 1)],[(3,cb 1 26 2 (eProg a1)),(2,cb 0 26 2 (eProg a0))],2⟩ ?_
 refine Qzd hT 1 [2,3,5] [(5,.fn 35 [] [])] ?_
 refine WA_seq ?_
 obtain ⟨J2,hJ2,h⟩:=jsome h
 refine WA_join (fun s=>∃ (b1 : Bool),J2 b1 = some r ∧ s = ⟨[(4,vb b1)],[],1⟩) ?_ ?_
 ·refine Rgd hT 5 [2,3,7,9,10] [(7,po s_Decl a0.Decls),(9,po s_Decl a1.Decls),(10,.fn 35 [] [])] ?_
  obtain ⟨r3,hr3,h⟩:=bsome h
  refine Pt' en36 (EqualFunc_Decl_ftree_Same_1_ok hr3) ?_
  refine Sgd hT 1 [2,3,12] [(12,vb r3)] ?_
  cases hb : (r3 : Bool)
  ·replace h:=cfalse hb h
   refine Sg hT 7 [4] ⟨[(4,vb false)],[(3,cb 1 26 2 (eProg a1)),(2,cb 0 26 2 (eProg a0))],2⟩ ?_
   exact oK [4] [] ⟨false,h,rfl⟩
  replace h:=ctrue hb h
  refine Sgd hT 4 [12,14,16] [(14,po s_LStmt a0.Threads),(16,po s_LStmt a1.Threads)] ?_
  obtain ⟨r4,hr4,h⟩:=bsome h
  refine Pt' en37 (EqualFunc_LStmt_ftree_sameBlock_ok hr4) ?_
  refine Sgd hT 2 [4] [(4,vb r4)] ?_
  exact oK [4] [] ⟨r4,h,rfl⟩
 subst hJ2
 rintro s ⟨b1,h,rfl⟩
 obtain rfl:=Option.some.inj h
 exact rK [4] [] ⟨[(4,vb b1)],[],1⟩ ⟨by kernel_rfl,rfl⟩
def ref1_SameExpr_spec (n : Nat) : Prop:=(∀ {a0 : Expr} {a1 : Expr} {r : Bool},ref1_SameExpr n a0 a1 = some r → PT Try.prog 39 [eExpr a0,eExpr a1] (vb r))
theorem ref1_SameExpr_step (n : Nat) (ih : ∀ m,m < n → ref1_SameExpr_spec m) : ∀ {a0 : Expr} {a1 : Expr} {r : Bool},ref1_SameExpr n a0 a1 = some r → PT Try.prog 39 [eExpr a0,eExpr a1] (vb r):=by
 intro a0 a1 r h
 rcases n with _ | n
 ·rw [ref1_SameExpr] at h; cases h
 rw [ref1_SameExpr] at h
 refine PT_bodyA hT Try.func39 rfl (by kernel_rfl) fun bad w=>?_
 refine Qz hT 3 [2,3] ⟨[(2,bx 2 0),(3,bx 3 1)],[(3,cb 1 36 4 (eExpr a1)),(2,cb 0 36 4 (eExpr a0))],2⟩ ?_
 refine WA_seq ?_
 refine WA_seq ?_
 obtain ⟨J2,hJ2,h⟩:=jsome h
 refine WA_join (fun s=>∃ (b1 : Bool),J2 b1 = some r ∧ s = ⟨[(2,bx 2 0),(3,bx 3 0),(33,vb b1)],[(2,cb 0 36 4 (eExpr a0)),(3,cb 0 36 4 (eExpr a1))],1⟩) ?_ ?_
 ·refine Rgd hT 6 [2,3,11] [(11,vb (a0.Kind != a1.Kind))] ?_
  cases hb : ((a0.Kind != a1.Kind) : Bool)
  ·replace h:=cfalse hb h
   refine Sgd hT 7 [2,3,18] [(18,vb (a0.N != a1.N))] ?_
   cases hb : ((a0.N != a1.N) : Bool)
   ·replace h:=cfalse hb h
    refine Sgd hT 7 [2,3,25] [(25,vb (!bytesEq a0.Name a1.Name))] ?_
    cases hb : (!bytesEq a0.Name a1.Name : Bool)
    ·replace h:=cfalse hb h
     refine Sgd hT 2 [2,3,25,27] [(27,po s_Expr a0.Of)] ?_
     refine One' hT rfl (v_len s_Expr .opt a0.Of) ?_
     refine Sgd hT 2 [2,3,25,28,30] [(28,vi (ln a0.Of)),(30,po s_Expr a1.Of)] ?_
     refine One' hT rfl (v_len s_Expr .opt a1.Of) ?_
     refine Sgd hT 2 [2,3,33] [(33,vb ((ln a0.Of) != (ln a1.Of)))] ?_
     exact oK [2,3,33] [(2,2,0),(3,3,0)] ⟨((ln a0.Of) != (ln a1.Of)),h,rfl⟩
    replace h:=ctrue hb h
    refine Sgd hT 8 [2,3,33] [(33,vb true)] ?_
    exact oK [2,3,33] [(2,2,0),(3,3,0)] ⟨true,h,rfl⟩
   replace h:=ctrue hb h
   refine Sgd hT 15 [2,3,33] [(33,vb true)] ?_
   exact oK [2,3,33] [(2,2,0),(3,3,0)] ⟨true,h,rfl⟩
  replace h:=ctrue hb h
  refine Sg hT 22 [2,3,33] ⟨[(2,bx 2 0),(3,bx 3 1),(33,vb true)],[(3,cb 1 36 4 (eExpr a1)),(2,cb 0 36 4 (eExpr a0))],2⟩ ?_
  exact oK [2,3,33] [(2,2,0),(3,3,0)] ⟨true,h,rfl⟩
 subst hJ2
 rintro s ⟨b1,h,rfl⟩
 refine Ci h (fun h=>?_) fun h=>?_
 ·refine Qzd hT 1 [4] [(4,vb false)] ?_
  obtain rfl:=Option.some.inj h
  exact rK [4] [] ⟨[(4,vb false)],[],1⟩ ⟨by kernel_rfl,rfl⟩
 refine WA_skip ?_
 refine WA_seq ?_
 refine Qzd hT 1 [2,3,5] [(5,vi 0)] ?_
 refine WA_block ?_
 refine lK [2,3,5] [(2,2,0),(3,3,0)] (fun k s=>∃ q,q ≤ k ∧ q ≤ n ∧ ∃ (i3 : Int),ref1_SameExpr_L0 q a0 a1 b1 i3 = some r ∧ s = ⟨[(2,bx 2 0),(3,bx 3 0),(5,vi i3)],[(2,cb 0 36 4 (eExpr a0)),(3,cb 0 36 4 (eExpr a1))],1⟩) n ⟨n,Nat.le_refl _,Nat.le_refl _,0,h,rfl⟩ (by rintro s ⟨q,hq,_,i3,h,_⟩; obtain rfl:=Nat.le_zero.1 hq; rw [ref1_SameExpr_L0] at h; cases h) ?_
 clear h
 rintro k1 s ⟨q1,hk1,hn1,i3,h,rfl⟩
 rcases q1 with _ | q1
 ·rw [ref1_SameExpr_L0] at h; cases h
 rw [ref1_SameExpr_L0] at h
 refine WA_seq ?_
 refine Qgd hT 3 [2,3,5,34,36] [(34,vi i3),(36,po s_Expr a0.Of)] ?_
 refine One' hT rfl (v_len s_Expr .opt a0.Of) ?_
 refine Szd hT 1 [2,3,5,38] [(38,vb (decide (i3 < (ln a0.Of))))] ?_
 refine Ci h (fun h=>?_) fun h=>?_
 ·refine WA_skip ?_
  refine WA_seq ?_
  refine WA_block ?_
  refine WA_seq ?_
  refine WA_drawW hT hM (by kernel_rfl) ?_
  refine Ds 3 [(43,vi i3),(42,po s_Expr a0.Of),(41,.box 2 0 0 3)] [] [(0,[2]),(1,[2])] ?_
  obtain ⟨x4,hx4,h⟩:=bsome h
  refine Dl rfl (v_index s_Expr .opt a0.Of .i64 i3 hx4) ?_
  refine Dt (.ref (eExpr x4) 0) ?_
  refine Ds 4 [(48,vi i3),(47,po s_Expr a1.Of),(46,.box 3 0 0 3),(45,eExpr x4)] [] [(5,[3]),(6,[3])] ?_
  obtain ⟨x5,hx5,h⟩:=bsome h
  refine Dl rfl (v_index s_Expr .opt a1.Of .i64 i3 hx5) ?_
  refine Dt (.ref (eExpr x5) 0) ?_
  refine Ds 1 [(50,eExpr x5)] [] [] ?_
  obtain ⟨r6,hr6,h⟩:=bsome h
  refine Dp [eExpr x4,eExpr x5] (vb r6) en39 ((ih _ (by omega)) hr6) ?_
  refine Ds 1 [(52,vb (!r6))] [] [] ?_
  refine De ?_
  refine Wk_done ?_
  refine Ci h (fun h=>?_) fun h=>?_
  ·refine Qzd hT 1 [4] [(4,vb false)] ?_
   obtain rfl:=Option.some.inj h
   exact rK [4] [] ⟨[(4,vb false)],[],1⟩ ⟨by kernel_rfl,rfl⟩
  refine WA_skip ?_
  refine Rgd hT 3 [2,3,5] [(5,vi (wr (i3 + 1)))] ?_
  exact oK [2,3,5] [(2,2,0),(3,3,0)] ⟨_,by omega,by omega,wr (i3 + 1),h,rfl⟩
 refine WA_exit ?_
 refine Qzd hT 1 [4] [(4,vb true)] ?_
 obtain rfl:=Option.some.inj h
 exact rK [4] [] ⟨[(4,vb true)],[],1⟩ ⟨by kernel_rfl,rfl⟩
theorem ref1_SameExpr_all (n : Nat) : ref1_SameExpr_spec n:=by
 induction n using Nat.strongRecOn with
 | _ n ih=>exact ref1_SameExpr_step n ih
theorem ref1_SameExpr_ok {n : Nat} {a0 : Expr} {a1 : Expr} {r : Bool} (h : ref1_SameExpr n a0 a1 = some r) : PT Try.prog 39 [eExpr a0,eExpr a1] (vb r):=(ref1_SameExpr_all n) h
def ref1_SameBlock_spec (n : Nat) : Prop:=(∀ {a0 : List Stmt} {a1 : List Stmt} {r : Bool},ref1_SameBlock n a0 a1 = some r → PT Try.prog 13 [po s_Stmt a0,po s_Stmt a1] (vb r))
theorem ref1_SameBlock_step (n : Nat) (ih : ∀ m,m < n → ref1_SameBlock_spec m) : ∀ {a0 : List Stmt} {a1 : List Stmt} {r : Bool},ref1_SameBlock n a0 a1 = some r → PT Try.prog 13 [po s_Stmt a0,po s_Stmt a1] (vb r):=by
 intro a0 a1 r h
 rcases n with _ | n
 ·rw [ref1_SameBlock] at h; cases h
 rw [ref1_SameBlock] at h
 refine PT_bodyA hT Try.func13 rfl (by kernel_rfl) fun bad w=>?_
 refine Qzd hT 1 [0,1] [] ?_
 refine WA_seq ?_
 refine Qgd hT 1 [0,1,8] [(8,po s_Stmt a0)] ?_
 refine One' hT rfl (v_len s_Stmt .opt a0) ?_
 refine Sgd hT 1 [0,1,9,10] [(9,vi (ln a0)),(10,po s_Stmt a1)] ?_
 refine One' hT rfl (v_len s_Stmt .opt a1) ?_
 refine Szd hT 1 [0,1,12] [(12,vb ((ln a0) != (ln a1)))] ?_
 refine Ci h (fun h=>?_) fun h=>?_
 ·refine Qz hT 1 [4] ⟨[(4,vb false)],[],0⟩ ?_
  obtain rfl:=Option.some.inj h
  exact rK [4] [] ⟨[(4,vb false)],[],1⟩ ⟨by kernel_rfl,rfl⟩
 refine WA_skip ?_
 refine WA_seq ?_
 refine Qzd hT 1 [0,1,5] [(5,vi 0)] ?_
 refine WA_block ?_
 refine lK [0,1,5] [] (fun k s=>∃ q,q ≤ k ∧ q ≤ n ∧ ∃ (i1 : Int),ref1_SameBlock_L0 q a0 a1 i1 = some r ∧ s = ⟨[(0,po s_Stmt a0),(1,po s_Stmt a1),(5,vi i1)],[],1⟩) n ⟨n,Nat.le_refl _,Nat.le_refl _,0,h,rfl⟩ (by rintro s ⟨q,hq,_,i1,h,_⟩; obtain rfl:=Nat.le_zero.1 hq; rw [ref1_SameBlock_L0] at h; cases h) ?_
 clear h
 rintro k1 s ⟨q1,hk1,hn1,i1,h,rfl⟩
 rcases q1 with _ | q1
 ·rw [ref1_SameBlock_L0] at h; cases h
 rw [ref1_SameBlock_L0] at h
 refine WA_seq ?_
 refine Qgd hT 2 [0,1,5,13,14] [(13,vi i1),(14,po s_Stmt a0)] ?_
 refine One' hT rfl (v_len s_Stmt .opt a0) ?_
 refine Szd hT 1 [0,1,5,16] [(16,vb (decide (i1 < (ln a0))))] ?_
 refine Ci h (fun h=>?_) fun h=>?_
 ·refine WA_skip ?_
  refine WA_seq ?_
  refine WA_block ?_
  refine Qgd hT 2 [0,1,5,19,20] [(19,po s_Stmt a0),(20,vi i1)] ?_
  obtain ⟨x2,hx2,h⟩:=bsome h
  refine One' hT rfl (v_index s_Stmt .opt a0 .i64 i1 hx2) ?_
  refine Szh hT 3 [0,1,5,6] [(6,bx 6 1)] [(6,cb 1 39 11 (eStmt x2))] 2 ?_
  refine Qgd hT 2 [0,1,5,6,23,24] [(23,po s_Stmt a1),(24,vi i1)] ?_
  obtain ⟨x3,hx3,h⟩:=bsome h
  refine One' hT rfl (v_index s_Stmt .opt a1 .i64 i1 hx3) ?_
  refine Szh hT 3 [0,1,5,6,7] [(7,bx 7 2)] [(7,cb 2 39 11 (eStmt x3)),(6,cb 1 39 11 (eStmt x2))] 3 ?_
  refine WA_seq ?_
  obtain ⟨J5,hJ5,h⟩:=jsome h
  refine WA_join (fun s=>∃ (b4 : Bool),J5 b4 = some r ∧ s = ⟨[(0,po s_Stmt a0),(1,po s_Stmt a1),(5,vi i1),(76,vb b4)],[],1⟩) ?_ ?_
  ·refine Rgd hT 6 [0,1,5,6,7,32] [(32,vb (x2.Kind != x3.Kind))] ?_
   cases hb : ((x2.Kind != x3.Kind) : Bool)
   ·replace h:=cfalse hb h
    refine Sgd hT 7 [0,1,5,6,7,39] [(39,vb (!bytesEq x2.Name x3.Name))] ?_
    cases hb : (!bytesEq x2.Name x3.Name : Bool)
    ·replace h:=cfalse hb h
     refine Sgd hT 7 [0,1,5,6,7,46] [(46,vb (!bytesEq x2.Other x3.Other))] ?_
     cases hb : (!bytesEq x2.Other x3.Other : Bool)
     ·replace h:=cfalse hb h
      refine Sg hT 7 [0,1,5,6,7,53] ⟨[(0,po s_Stmt a0),(1,po s_Stmt a1),(5,vi i1),(6,bx 6 1),(7,bx 7 2),(53,vb (x2.N != x3.N))],[(7,cb 2 39 11 (eStmt x3)),(6,cb 1 39 11 (eStmt x2))],3⟩ ?_
      cases hb : ((x2.N != x3.N) : Bool)
      ·replace h:=cfalse hb h
       refine Sgd hT 4 [0,1,5,6,7,53,55,57] [(55,eExpr x2.E),(57,eExpr x3.E)] ?_
       obtain ⟨r6,hr6,h⟩:=bsome h
       refine Pt' en39 (ref1_SameExpr_ok hr6) ?_
       refine Sgd hT 3 [0,1,5,6,7,61] [(61,vb (!r6))] ?_
       cases hb : (!r6 : Bool)
       ·replace h:=cfalse hb h
        refine Sgd hT 4 [0,1,5,6,7,61,63,65] [(63,po s_Stmt x2.Body),(65,po s_Stmt x3.Body)] ?_
        obtain ⟨r7,hr7,h⟩:=bsome h
        refine Pt' en13 ((ih _ (by omega)) hr7) ?_
        refine Sgd hT 3 [0,1,5,6,7,69] [(69,vb (!r7))] ?_
        cases hb : (!r7 : Bool)
        ·replace h:=cfalse hb h
         refine Sgd hT 4 [0,1,5,69,71,73] [(71,po s_Stmt x2.Else),(73,po s_Stmt x3.Else)] ?_
         obtain ⟨r8,hr8,h⟩:=bsome h
         refine Pt' en13 ((ih _ (by omega)) hr8) ?_
         refine Sgd hT 2 [0,1,5,76] [(76,vb (!r8))] ?_
         exact oK [0,1,5,76] [] ⟨!r8,h,rfl⟩
        replace h:=ctrue hb h
        refine Sgd hT 7 [0,1,5,76] [(76,vb true)] ?_
        exact oK [0,1,5,76] [] ⟨true,h,rfl⟩
       replace h:=ctrue hb h
       refine Sgd hT 15 [0,1,5,76] [(76,vb true)] ?_
       exact oK [0,1,5,76] [] ⟨true,h,rfl⟩
      replace h:=ctrue hb h
      refine Sg hT 23 [0,1,5,76] ⟨[(0,po s_Stmt a0),(1,po s_Stmt a1),(5,vi i1),(76,vb true)],[(7,cb 2 39 11 (eStmt x3)),(6,cb 1 39 11 (eStmt x2))],3⟩ ?_
      exact oK [0,1,5,76] [] ⟨true,h,rfl⟩
     replace h:=ctrue hb h
     refine Sgd hT 30 [0,1,5,76] [(76,vb true)] ?_
     exact oK [0,1,5,76] [] ⟨true,h,rfl⟩
    replace h:=ctrue hb h
    refine Sgd hT 37 [0,1,5,76] [(76,vb true)] ?_
    exact oK [0,1,5,76] [] ⟨true,h,rfl⟩
   replace h:=ctrue hb h
   refine Sgd hT 44 [0,1,5,76] [(76,vb true)] ?_
   exact oK [0,1,5,76] [] ⟨true,h,rfl⟩
  subst hJ5
  rintro s ⟨b4,h,rfl⟩
  skip
  refine Ci h (fun h=>?_) fun h=>?_
  ·refine Qz hT 1 [4] ⟨[(4,vb false)],[],1⟩ ?_
   obtain rfl:=Option.some.inj h
   exact rK [4] [] ⟨[(4,vb false)],[],1⟩ ⟨by kernel_rfl,rfl⟩
  refine WA_skip ?_
  refine Rgd hT 3 [0,1,5] [(5,vi (wr (i1 + 1)))] ?_
  exact oK [0,1,5] [] ⟨_,by omega,by omega,wr (i1 + 1),h,rfl⟩
 refine WA_exit ?_
 refine Qz hT 1 [4] ⟨[(4,vb true)],[],1⟩ ?_
 obtain rfl:=Option.some.inj h
 exact rK [4] [] ⟨[(4,vb true)],[],1⟩ ⟨by kernel_rfl,rfl⟩
theorem ref1_SameBlock_all (n : Nat) : ref1_SameBlock_spec n:=by
 induction n using Nat.strongRecOn with
 | _ n ih=>exact ref1_SameBlock_step n ih
theorem ref1_SameBlock_ok {n : Nat} {a0 : List Stmt} {a1 : List Stmt} {r : Bool} (h : ref1_SameBlock n a0 a1 = some r) : PT Try.prog 13 [po s_Stmt a0,po s_Stmt a1] (vb r):=(ref1_SameBlock_all n) h
def tree_listed_o_spec (n : Nat) : Prop:=(∀ {a0 : List Stmt} {a1 : List Stmt} {r : List Stmt},tree_listed_o n a0 a1 = some r → GO Try.prog 31 [(0,rb 0 s_Stmt a0)] [vs 0 0 s_Stmt a0,po s_Stmt a1] (vs 100 1 s_Stmt r) [(100,rb 1 s_Stmt r)])
theorem tree_listed_o_step (n : Nat) (ih : ∀ m,m < n → tree_listed_o_spec m) : ∀ {a0 : List Stmt} {a1 : List Stmt} {r : List Stmt},tree_listed_o n a0 a1 = some r → GO Try.prog 31 [(0,rb 0 s_Stmt a0)] [vs 0 0 s_Stmt a0,po s_Stmt a1] (vs 100 1 s_Stmt r) [(100,rb 1 s_Stmt r)]:=by
 intro a0 a1 r h
 rcases n with _ | n
 ·rw [tree_listed_o] at h; cases h
 rw [tree_listed_o] at h
 refine GO_bodyA hT Try.func31 rfl [] (by kernel_rfl) fun bad w m=>?_
 refine Qzd hT 1 [0,1] [] ?_
 refine WA_seq ?_
 refine Qgd hT 1 [0,7] [(7,po s_Stmt a1)] ?_
 refine One' hT rfl (v_len s_Stmt .opt a1) ?_
 refine Szd hT 1 [0,7,8,9] [(8,vi (ln a1)),(9,vi 0)] ?_
 refine WA_block ?_
 refine lK [0,7,8,9] [(0,10000,1)] (fun k s=>∃ q,q ≤ k ∧ q ≤ n ∧ ∃ (l1 : List Stmt),∃ (i2 : Int),tree_listed_o_L0 q a0 a1 l1 i2 = some r ∧ s = ⟨[(0,vs 10000 1 s_Stmt l1),(7,po s_Stmt a1),(8,vi (ln a1)),(9,vi i2)],[(10000,rb 1 s_Stmt l1)],2⟩) n ⟨n,Nat.le_refl _,Nat.le_refl _,a0,0,h,rfl⟩ (by rintro s ⟨q,hq,_,l1,i2,h,_⟩; obtain rfl:=Nat.le_zero.1 hq; rw [tree_listed_o_L0] at h; cases h) ?_
 clear h
 rintro k1 s ⟨q1,hk1,hn1,l1,i2,h,rfl⟩
 rcases q1 with _ | q1
 ·rw [tree_listed_o_L0] at h; cases h
 rw [tree_listed_o_L0] at h
 refine Qzd hT 1 [0,7,8,9,10] [(10,vb (decide (i2 < (ln a1))))] ?_
 refine WA_seq ?_
 refine Ci h (fun h=>?_) fun h=>?_
 ·refine WA_skip ?_
  refine WA_seq ?_
  refine WA_block ?_
  refine Qgd hT 0 [0,7,8,9] [] ?_
  obtain ⟨x3,hx3,h⟩:=bsome h
  refine One' hT rfl (v_index s_Stmt .opt a1 .i64 i2 hx3) ?_
  refine Szh hT 3 [0,6,7,8,9] [(6,bx 6 2)] [(6,cb 2 39 11 (eStmt x3)),(10000,rb 1 s_Stmt l1)] 3 ?_
  refine WA_drawW hT hM (by kernel_rfl) ?_
  refine Ds 2 [(14,eStmt x3),(13,vs 10000 1 s_Stmt l1)] [] [(1,[6])] ?_
  refine Dl rfl (ev_bsliceD s_Stmt [x3] (by kernel_rfl)) ?_
  refine Dt (.ps .full (s_Stmt.F [x3])) ?_
  obtain ⟨g4,h⟩:=gsome h
  refine Dw rfl (ev_append s_Stmt 10000 1 true l1 [x3] (by kernel_rfl) (by kernel_rfl) (by kernel_rfl) (by simp) g4) ?_
  refine Dh 2 [(18,po s_Stmt x3.Body),(17,.box 6 2 0 8)] [(16,⟨3,39,11,false,false,s_Stmt.F (l1 ++ [x3])⟩),(6,cb 2 39 11 (eStmt x3))] 4 [] [(4,[6]),(5,[6])] ?_
  obtain ⟨r5,hr5,h⟩:=bsome h
  refine Dg [(0,⟨0,39,11,false,false,s_Stmt.F (l1 ++ [x3])⟩)] [(100,rb 1 s_Stmt r5)] [vs 16 3 s_Stmt (l1 ++ [x3]),po s_Stmt x3.Body] [vs 0 0 s_Stmt (l1 ++ [x3]),po s_Stmt x3.Body] [(16,0,0)] [(100,19,4)] [(19,rb 4 s_Stmt r5)] (vs 100 1 s_Stmt r5) (vs 19 4 s_Stmt r5) 5 en31 (GO_leH (hA:=[(0,rb 0 s_Stmt (l1 ++ [x3]))]) ⟨rfl,.inr (.inr rfl),trivial⟩ ((ih _ (by omega)) hr5)) ?_
  refine Dh 2 [(21,po s_Stmt x3.Else),(20,.box 6 2 0 9)] [(19,rb 4 s_Stmt r5),(6,cb 2 39 11 (eStmt x3))] 5 [] [(7,[6]),(8,[6])] ?_
  obtain ⟨r6,hr6,h⟩:=bsome h
  refine Dg [(0,rb 0 s_Stmt r5)] [(100,rb 1 s_Stmt r6)] [vs 19 4 s_Stmt r5,po s_Stmt x3.Else] [vs 0 0 s_Stmt r5,po s_Stmt x3.Else] [(19,0,0)] [(100,22,5)] [(22,rb 5 s_Stmt r6)] (vs 100 1 s_Stmt r6) (vs 22 5 s_Stmt r6) 6 en31 ((ih _ (by omega)) hr6) ?_
  refine Dh 1 [(0,vs 22 5 s_Stmt r6)] [(22,rb 5 s_Stmt r6),(6,cb 2 39 11 (eStmt x3))] 6 [] [] ?_
  refine De ?_
  refine Wk_done ?_
  refine Rgd hT 2 [0,7,8,9] [(9,vi (wr (i2 + 1)))] ?_
  exact oK [0,7,8,9] [(22,10000,1)] ⟨_,by omega,by omega,r6,wr (i2 + 1),h,rfl⟩
 refine WA_exit ?_
 refine Qzd hT 2 [4] [(4,vs 10000 1 s_Stmt l1)] ?_
 obtain rfl:=Option.some.inj h
 exact rK [4] [(10000,100,1)] ⟨[(4,vs 100 1 s_Stmt l1)],[(100,rb 1 s_Stmt l1)],2⟩ ⟨by kernel_rfl,by kernel_rfl,rfl⟩
theorem tree_listed_o_all (n : Nat) : tree_listed_o_spec n:=by
 induction n using Nat.strongRecOn with
 | _ n ih=>exact tree_listed_o_step n ih
theorem tree_listed_o_ok {n : Nat} {a0 : List Stmt} {a1 : List Stmt} {r : List Stmt} (h : tree_listed_o n a0 a1 = some r) : GO Try.prog 31 [(0,rb 0 s_Stmt a0)] [vs 0 0 s_Stmt a0,po s_Stmt a1] (vs 100 1 s_Stmt r) [(100,rb 1 s_Stmt r)]:=(tree_listed_o_all n) h
theorem Clone_Expr_ok {n : Nat} {a0 : List Expr} {r : List Expr} (h : Clone_Expr n a0 = some r) : GO Try.prog 55 [] [po s_Expr a0] (vs 100 1 s_Expr r) [(100,rb 1 s_Expr r)]:=by
 unfold Clone_Expr at h
 refine GO_bodyA hT Try.func55 rfl [] (by kernel_rfl) fun bad w m=>?_
 refine Qzd hT 1 [0] [] ?_
 refine WA_seq ?_
 refine Qgd hT 1 [0,3] [(3,po s_Expr a0)] ?_
 refine WO_isnil' hT s_Expr rfl (by kernel_rfl) .opt a0 rfl (by kernel_rfl) (by kernel_rfl) ?_
 intro b1 hnil
 cases b1
 ·clear hnil
  refine Szh hT 0 [0,4] [(4,vb false)] [] 1 ?_
  refine WA_cond false (by kernel_rfl) (fun hb=>by cases hb) (fun _=>?_)
  refine WA_skip ?_
  refine Qg hT 2 [5,6] ⟨[(5,vs 5 1 s_Expr ([] : List Expr)),(6,po s_Expr a0)],[(5,⟨1,36,4,false,false,s_Expr.F ([] : List Expr)⟩)],2⟩ ?_
  obtain ⟨g2,h⟩:=gsome h
  refine Oa hT s_Expr 5 1 false ([] : List Expr) a0 (by kernel_rfl) g2 ?_
  refine Sz hT 1 [2] ⟨[(2,vs 7 2 s_Expr (([] : List Expr) ++ a0))],[(7,rb 2 s_Expr (([] : List Expr) ++ a0))],3⟩ ?_
  obtain rfl:=Option.some.inj h
  exact rK [2] [(7,100,1)] ⟨[(2,vs 100 1 s_Expr (([] : List Expr) ++ a0))],[(100,rb 1 s_Expr (([] : List Expr) ++ a0))],2⟩ ⟨by kernel_rfl,by kernel_rfl,rfl⟩
 ·replace h : some ([] : List Expr) = some r:=by (have e:=hnil rfl; subst e; first | exact h | (obtain ⟨_,h⟩:=gsome h; simpa using h))
  clear hnil
  refine Szh hT 0 [0,4] [(4,vb true)] [] 1 ?_
  refine WA_cond true (by kernel_rfl) (fun _=>?_) (fun hb=>by cases hb)
  refine Qz hT 1 [2] ⟨[(2,vn)],[],1⟩ ?_
  refine aW [2] ⟨[(2,vn)],[],1⟩ ?_
  refine WA_weak (wO 2 5000 36 4) ?_
  obtain rfl:=Option.some.inj h
  exact rK [2] [(5000,100,1)] ⟨[(2,vs 100 1 s_Expr ([] : List Expr))],[(100,rb 1 s_Expr ([] : List Expr))],2⟩ ⟨by kernel_rfl,by kernel_rfl,rfl⟩
theorem Clip_Expr_o_ok {n : Nat} {a0 : List Expr} {r : List Expr} (h : Clip_Expr_o n a0 = some r) : GO Try.prog 54 [(0,rb 0 s_Expr a0)] [vs 0 0 s_Expr a0] (.sl 100 1 0 (s_Expr.F r).length false) [(100,rb 1 s_Expr r)]:=by
 unfold Clip_Expr_o at h
 refine GO_bodyA hT Try.func54 rfl [] (by kernel_rfl) fun bad w m=>?_
 refine Qzd hT 1 [0] [] ?_
 refine Qgd hT 2 [0,3,4] [(3,vs 0 0 s_Expr a0),(4,vs 0 0 s_Expr a0)] ?_
 refine One' hT rfl (v_len_own s_Expr 0 0 true (rb 0 s_Expr a0) a0) ?_
 refine Sgd hT 1 [3,5,6] [(5,vi (ln a0)),(6,vs 0 0 s_Expr a0)] ?_
 refine One' hT rfl (v_len_own s_Expr 0 0 true (rb 0 s_Expr a0) a0) ?_
 refine Sgd hT 0 [3,5,7] [(7,vi (ln a0))] ?_
 refine WO_clip' hT s_Expr rfl (by kernel_rfl) 0 0 (s_Expr.F a0).length true (rb 0 s_Expr a0) rfl (by kernel_rfl) (by kernel_rfl) rfl (by rw [TE.len]; kernel_rfl) (by rw [TE.len]; kernel_rfl) (by kernel_rfl) ?_
 refine Sz hT 1 [2] ⟨[(2,.sl 0 0 0 (s_Expr.F a0).length false)],[(0,rb 0 s_Expr a0)],1⟩ ?_
 obtain rfl:=Option.some.inj h
 exact rK [2] [(0,100,1)] ⟨[(2,.sl 100 1 0 (s_Expr.F a0).length false)],[(100,rb 1 s_Expr a0)],2⟩ ⟨by kernel_rfl,by kernel_rfl,rfl⟩
def tree_copyExpr_spec (n : Nat) : Prop:=(∀ {a0 : Expr} {r : Expr},tree_copyExpr n a0 = some r → PT Try.prog 48 [eExpr a0] (eExpr r))
theorem tree_copyExpr_step (n : Nat) (ih : ∀ m,m < n → tree_copyExpr_spec m) : ∀ {a0 : Expr} {r : Expr},tree_copyExpr n a0 = some r → PT Try.prog 48 [eExpr a0] (eExpr r):=by
 intro a0 r h
 rcases n with _ | n
 ·rw [tree_copyExpr] at h; cases h
 rw [tree_copyExpr] at h
 refine PT_bodyA hT Try.func48 rfl (by kernel_rfl) fun bad w=>?_
 refine Qz hT 2 [1,2] ⟨[(1,bx 1 0),(2,bx 2 1)],[(2,cb 1 36 4 (.agg [vi 0,vi 0,vw b0,vn])),(1,cb 0 36 4 (eExpr a0))],2⟩ ?_
 refine Qgd hT 2 [1,2,6] [(6,po s_Expr a0.Of)] ?_
 obtain ⟨r1,hr1,h⟩:=bsome h
 refine Og [] [(100,rb 1 s_Expr r1)] [po s_Expr a0.Of] [po s_Expr a0.Of] [] [(100,7,2)] [(7,rb 2 s_Expr r1)] (vs 100 1 s_Expr r1) (vs 7 2 s_Expr r1) 3 en55 (Clone_Expr_ok hr1) ?_
 refine Sgh hT 0 [1,2,7] [(7,vs 7 2 s_Expr r1)] [(7,rb 2 s_Expr r1),(2,cb 1 36 4 (.agg [vi 0,vi 0,vw b0,vn])),(1,cb 0 36 4 (eExpr a0))] 3 ?_
 obtain ⟨r2,hr2,h⟩:=bsome h
 refine Og [(0,rb 0 s_Expr r1)] [(100,rb 1 s_Expr r2)] [vs 7 2 s_Expr r1] [vs 0 0 s_Expr r1] [(7,0,0)] [(100,8,3)] [(8,rb 3 s_Expr r2)] (.sl 100 1 0 (s_Expr.F r2).length false) (.sl 8 3 0 (s_Expr.F r2).length false) 4 en54 (Clip_Expr_o_ok hr2) ?_
 refine Szh hT 2 [1,2] [] [(1,cb 0 36 4 (.agg [vi a0.Kind,vi a0.N,vw a0.Name,.sl 8 3 0 (s_Expr.F r2).length false])),(8,rb 3 s_Expr r2),(2,cb 1 36 4 (.agg [vi 0,vi 0,vw b0,vn]))] 4 ?_
 refine WA_seq ?_
 refine Qgd hT 2 [1,2,11] [(11,.sl 8 3 0 (s_Expr.F r2).length false)] ?_
 refine One' hT rfl (v_len_own s_Expr 8 3 false (rb 3 s_Expr r2) r2) ?_
 refine Szd hT 1 [1,2,11,12,13] [(12,vi (ln r2)),(13,vi 0)] ?_
 refine WA_block ?_
 refine lK [1,2,11,12,13] [(1,1,0),(2,2,0),(8,8,0)] (fun k s=>∃ q,q ≤ k ∧ q ≤ n ∧ ∃ (l4 : List Expr),∃ (w5 : ByteArray),∃ (i6 : Int),tree_copyExpr_L0 q a0 r1 r2 l4 w5 i6 = some r ∧ s = ⟨[(1,bx 1 0),(2,bx 2 0),(11,.sl 8 0 0 (s_Expr.F l4).length false),(12,vi (ln r2)),(13,vi i6)],[(1,cb 0 36 4 (.agg [vi a0.Kind,vi a0.N,vw a0.Name,.sl 8 0 0 (s_Expr.F l4).length false])),(2,cb 0 36 4 (.agg [vi 0,vi 0,vw w5,vn])),(8,rb 0 s_Expr l4)],1⟩) n ⟨n,Nat.le_refl _,Nat.le_refl _,r2,b0,0,h,rfl⟩ (by rintro s ⟨q,hq,_,l4,w5,i6,h,_⟩; obtain rfl:=Nat.le_zero.1 hq; rw [tree_copyExpr_L0] at h; cases h) ?_
 clear h
 rintro k1 s ⟨q1,hk1,hn1,l4,w5,i6,h,rfl⟩
 rcases q1 with _ | q1
 ·rw [tree_copyExpr_L0] at h; cases h
 rw [tree_copyExpr_L0] at h
 refine Qzd hT 1 [1,2,11,12,13,14] [(14,vb (decide (i6 < (ln r2))))] ?_
 refine WA_seq ?_
 refine Ci h (fun h=>?_) fun h=>?_
 ·refine WA_skip ?_
  refine WA_seq ?_
  refine WA_block ?_
  refine Qgd hT 1 [1,2,11,12,13,15] [(15,vi i6)] ?_
  obtain ⟨x7,hx7,h⟩:=bsome h
  refine One' hT rfl (v_index_own s_Expr 8 0 false (rb 0 s_Expr l4) l4 .i64 i6 hx7) ?_
  refine Sg hT 0 [1,2,11,12,13,15,16] ⟨[(1,bx 1 0),(2,bx 2 0),(11,.sl 8 0 0 (s_Expr.F l4).length false),(12,vi (ln r2)),(13,vi i6),(15,vi i6),(16,.box 8 0 i6.toNat 0)],[(1,cb 0 36 4 (.agg [vi a0.Kind,vi a0.N,vw a0.Name,.sl 8 0 0 (s_Expr.F l4).length false])),(2,cb 0 36 4 (.agg [vi 0,vi 0,vw w5,vn])),(8,rb 0 s_Expr l4)],1⟩ ?_
  refine One' hT rfl (v_load_row s_Expr 8 0 (rb 0 s_Expr l4) l4 i6.toNat 0 x7 (eExpr x7) (idx_some hx7).2) ?_
  refine Szh hT 3 [1,2,3,4,11,12,13] [(3,vi i6),(4,bx 4 1)] [(4,cb 1 36 4 (eExpr x7)),(1,cb 0 36 4 (.agg [vi a0.Kind,vi a0.N,vw a0.Name,.sl 8 0 0 (s_Expr.F l4).length false])),(2,cb 0 36 4 (.agg [vi 0,vi 0,vw w5,vn])),(8,rb 0 s_Expr l4)] 2 ?_
  refine WA_drawW hT hM (by kernel_rfl) ?_
  refine Ds 4 [(21,eExpr x7),(20,vi i6),(19,.sl 8 0 0 (s_Expr.F l4).length false),(18,.box 1 0 0 3)] [] [(0,[1]),(1,[1]),(3,[4])] ?_
  obtain ⟨r8,hr8,h⟩:=bsome h
  refine Dp [eExpr x7] (eExpr r8) en48 ((ih _ (by omega)) hr8) ?_
  obtain ⟨x9,hx9,h⟩:=bsome h
  refine Dl rfl (v_index_own s_Expr 8 0 false (rb 0 s_Expr l4) l4 .i64 i6 hx9) ?_
  refine Dt (.box 8 0 i6.toNat 0) ?_
  refine Dw rfl (v_storeRow s_Expr 8 0 (rb 0 s_Expr l4) l4 i6.toNat 0 x9 r8 (idx_some hx9).2) ?_
  refine De ?_
  refine kW [1,2,11,12,13] ⟨[(1,bx 1 0),(2,bx 2 0),(11,.sl 8 0 0 (s_Expr.F l4).length false),(12,vi (ln r2)),(13,vi i6)],[(8,rb 0 s_Expr (l4.set i6.toNat r8)),(4,cb 1 36 4 (eExpr x7)),(1,cb 0 36 4 (.agg [vi a0.Kind,vi a0.N,vw a0.Name,.sl 8 0 0 (s_Expr.F l4).length false])),(2,cb 0 36 4 (.agg [vi 0,vi 0,vw w5,vn]))],2⟩ ?_
  refine Wk_step (wL [(1,bx 1 0),(2,bx 2 0),(11,.sl 8 0 0 (s_Expr.F (l4.set i6.toNat r8)).length false),(12,vi (ln r2)),(13,vi i6)] [(8,rb 0 s_Expr (l4.set i6.toNat r8)),(4,cb 1 36 4 (eExpr x7)),(1,cb 0 36 4 (.agg [vi a0.Kind,vi a0.N,vw a0.Name,.sl 8 0 0 (s_Expr.F (l4.set i6.toNat r8)).length false])),(2,cb 0 36 4 (.agg [vi 0,vi 0,vw w5,vn]))] ⟨VLf.refl _,VLf.refl _,(VLf.slen (by simp [TE.len,lcopy_length,rcopy_length,clr_length])),VLf.refl _,VLf.refl _,trivial⟩ ⟨rfl,.inl rfl,rfl,.inl rfl,rfl,.inr (.inl ⟨rfl,rfl,CLe.agg ⟨VLf.refl _,VLf.refl _,VLf.refl _,(VLf.slen (by simp [TE.len,lcopy_length,rcopy_length,clr_length])),trivial⟩,trivial⟩),rfl,.inl rfl,trivial⟩) ?_
  refine Wk_done ?_
  refine Rgd hT 2 [1,2,11,12,13] [(13,vi (wr (i6 + 1)))] ?_
  exact oK [1,2,11,12,13] [(1,1,0),(2,2,0),(8,8,0)] ⟨_,by omega,by omega,l4.set i6.toNat r8,w5,wr (i6 + 1),h,rfl⟩
 refine WA_exit ?_
 refine Qz hT 2 [2] ⟨[(2,bx 2 0)],[(2,cb 0 36 4 (.agg [vi a0.Kind,vi a0.N,vw a0.Name,.sl 8 0 0 (s_Expr.F l4).length false])),(1,cb 0 36 4 (.agg [vi a0.Kind,vi a0.N,vw a0.Name,.sl 8 0 0 (s_Expr.F l4).length false])),(8,rb 0 s_Expr l4)],1⟩ ?_
 refine aW [2] ⟨[(2,bx 2 0)],[(2,cb 0 36 4 (.agg [vi a0.Kind,vi a0.N,vw a0.Name,.sl 8 0 0 (s_Expr.F l4).length false])),(1,cb 0 36 4 (.agg [vi a0.Kind,vi a0.N,vw a0.Name,.sl 8 0 0 (s_Expr.F l4).length false])),(8,rb 0 s_Expr l4)],1⟩ ?_
 refine WA_weak (wF 8 0 (rb 0 s_Expr l4) [(2,bx 2 0)] [(2,cb 0 36 4 (.agg [vi a0.Kind,vi a0.N,vw a0.Name,po s_Expr l4])),(1,cb 0 36 4 (.agg [vi a0.Kind,vi a0.N,vw a0.Name,po s_Expr l4]))] ⟨rfl,.keep _,trivial⟩ ⟨rfl,.inr ⟨rfl,rfl,.aggs ⟨.keep _,.keep _,.keep _,.hit false,trivial⟩,trivial⟩,rfl,.inr ⟨rfl,rfl,.aggs ⟨.keep _,.keep _,.keep _,.hit false,trivial⟩,trivial⟩,trivial⟩) ?_
 refine WA_weak (wL [(2,bx 2 0)] [(2,cb 0 36 4 (eExpr (Expr.mk a0.Kind a0.N a0.Name l4))),(1,cb 0 36 4 (.agg [vi a0.Kind,vi a0.N,vw a0.Name,po s_Expr l4]))] ⟨VLf.refl _,trivial⟩ ⟨rfl,.inr (.inl ⟨rfl,rfl,CLe.agg ⟨VLf.refl _,VLf.refl _,VLf.refl _,VLf.refl _,trivial⟩,trivial⟩),rfl,.inl rfl,trivial⟩) ?_
 obtain rfl:=Option.some.inj h
 exact rR [(2,1000,0)] ⟨[(2,bx 1000 0)],[(1000,cb 0 36 4 (eExpr (Expr.mk a0.Kind a0.N a0.Name l4)))],1⟩ ⟨by kernel_rfl,rfl⟩
theorem tree_copyExpr_all (n : Nat) : tree_copyExpr_spec n:=by
 induction n using Nat.strongRecOn with
 | _ n ih=>exact tree_copyExpr_step n ih
theorem tree_copyExpr_ok {n : Nat} {a0 : Expr} {r : Expr} (h : tree_copyExpr n a0 = some r) : PT Try.prog 48 [eExpr a0] (eExpr r):=(tree_copyExpr_all n) h
theorem Clone_Stmt_ok {n : Nat} {a0 : List Stmt} {r : List Stmt} (h : Clone_Stmt n a0 = some r) : GO Try.prog 47 [] [po s_Stmt a0] (vs 100 1 s_Stmt r) [(100,rb 1 s_Stmt r)]:=by
 unfold Clone_Stmt at h
 refine GO_bodyA hT Try.func47 rfl [] (by kernel_rfl) fun bad w m=>?_
 refine Qzd hT 1 [0] [] ?_
 refine WA_seq ?_
 refine Qgd hT 1 [0,3] [(3,po s_Stmt a0)] ?_
 refine WO_isnil' hT s_Stmt rfl (by kernel_rfl) .opt a0 rfl (by kernel_rfl) (by kernel_rfl) ?_
 intro b1 hnil
 cases b1
 ·clear hnil
  refine Szh hT 0 [0,4] [(4,vb false)] [] 1 ?_
  refine WA_cond false (by kernel_rfl) (fun hb=>by cases hb) (fun _=>?_)
  refine WA_skip ?_
  refine Qg hT 2 [5,6] ⟨[(5,vs 5 1 s_Stmt ([] : List Stmt)),(6,po s_Stmt a0)],[(5,⟨1,39,11,false,false,s_Stmt.F ([] : List Stmt)⟩)],2⟩ ?_
  obtain ⟨g2,h⟩:=gsome h
  refine Oa hT s_Stmt 5 1 false ([] : List Stmt) a0 (by kernel_rfl) g2 ?_
  refine Sz hT 1 [2] ⟨[(2,vs 7 2 s_Stmt (([] : List Stmt) ++ a0))],[(7,rb 2 s_Stmt (([] : List Stmt) ++ a0))],3⟩ ?_
  obtain rfl:=Option.some.inj h
  exact rK [2] [(7,100,1)] ⟨[(2,vs 100 1 s_Stmt (([] : List Stmt) ++ a0))],[(100,rb 1 s_Stmt (([] : List Stmt) ++ a0))],2⟩ ⟨by kernel_rfl,by kernel_rfl,rfl⟩
 ·replace h : some ([] : List Stmt) = some r:=by (have e:=hnil rfl; subst e; first | exact h | (obtain ⟨_,h⟩:=gsome h; simpa using h))
  clear hnil
  refine Szh hT 0 [0,4] [(4,vb true)] [] 1 ?_
  refine WA_cond true (by kernel_rfl) (fun _=>?_) (fun hb=>by cases hb)
  refine Qz hT 1 [2] ⟨[(2,vn)],[],1⟩ ?_
  refine aW [2] ⟨[(2,vn)],[],1⟩ ?_
  refine WA_weak (wO 2 5000 39 11) ?_
  obtain rfl:=Option.some.inj h
  exact rK [2] [(5000,100,1)] ⟨[(2,vs 100 1 s_Stmt ([] : List Stmt))],[(100,rb 1 s_Stmt ([] : List Stmt))],2⟩ ⟨by kernel_rfl,by kernel_rfl,rfl⟩
theorem Clip_Stmt_o_ok {n : Nat} {a0 : List Stmt} {r : List Stmt} (h : Clip_Stmt_o n a0 = some r) : GO Try.prog 33 [(0,rb 0 s_Stmt a0)] [vs 0 0 s_Stmt a0] (.sl 100 1 0 (s_Stmt.F r).length false) [(100,rb 1 s_Stmt r)]:=by
 unfold Clip_Stmt_o at h
 refine GO_bodyA hT Try.func33 rfl [] (by kernel_rfl) fun bad w m=>?_
 refine Qzd hT 1 [0] [] ?_
 refine Qgd hT 2 [0,3,4] [(3,vs 0 0 s_Stmt a0),(4,vs 0 0 s_Stmt a0)] ?_
 refine One' hT rfl (v_len_own s_Stmt 0 0 true (rb 0 s_Stmt a0) a0) ?_
 refine Sgd hT 1 [3,5,6] [(5,vi (ln a0)),(6,vs 0 0 s_Stmt a0)] ?_
 refine One' hT rfl (v_len_own s_Stmt 0 0 true (rb 0 s_Stmt a0) a0) ?_
 refine Sgd hT 0 [3,5,7] [(7,vi (ln a0))] ?_
 refine WO_clip' hT s_Stmt rfl (by kernel_rfl) 0 0 (s_Stmt.F a0).length true (rb 0 s_Stmt a0) rfl (by kernel_rfl) (by kernel_rfl) rfl (by rw [TE.len]; kernel_rfl) (by rw [TE.len]; kernel_rfl) (by kernel_rfl) ?_
 refine Sz hT 1 [2] ⟨[(2,.sl 0 0 0 (s_Stmt.F a0).length false)],[(0,rb 0 s_Stmt a0)],1⟩ ?_
 obtain rfl:=Option.some.inj h
 exact rK [2] [(0,100,1)] ⟨[(2,.sl 100 1 0 (s_Stmt.F a0).length false)],[(100,rb 1 s_Stmt a0)],2⟩ ⟨by kernel_rfl,by kernel_rfl,rfl⟩
def tree_copyBlock_spec (n : Nat) : Prop:=(∀ {a0 : List Stmt} {r : List Stmt},tree_copyBlock n a0 = some r → GO Try.prog 29 [] [po s_Stmt a0] (.sl 100 1 0 (s_Stmt.F r).length false) [(100,rb 1 s_Stmt r)]) ∧ (∀ {a0 : Stmt} {r : Stmt},tree_copyStmt n a0 = some r → PT Try.prog 32 [eStmt a0] (eStmt r))
theorem tree_copyBlock_step (n : Nat) (ih : ∀ m,m < n → tree_copyBlock_spec m) : ∀ {a0 : List Stmt} {r : List Stmt},tree_copyBlock n a0 = some r → GO Try.prog 29 [] [po s_Stmt a0] (.sl 100 1 0 (s_Stmt.F r).length false) [(100,rb 1 s_Stmt r)]:=by
 intro a0 r h
 rcases n with _ | n
 ·rw [tree_copyBlock] at h; cases h
 rw [tree_copyBlock] at h
 refine GO_bodyA hT Try.func29 rfl [] (by kernel_rfl) fun bad w m=>?_
 refine Qzd hT 1 [0] [] ?_
 refine Qg hT 1 [6] ⟨[(6,po s_Stmt a0)],[],1⟩ ?_
 obtain ⟨r1,hr1,h⟩:=bsome h
 refine Og [] [(100,rb 1 s_Stmt r1)] [po s_Stmt a0] [po s_Stmt a0] [] [(100,7,1)] [(7,rb 1 s_Stmt r1)] (vs 100 1 s_Stmt r1) (vs 7 1 s_Stmt r1) 2 en47 (Clone_Stmt_ok hr1) ?_
 refine Sg hT 0 [7] ⟨[(7,vs 7 1 s_Stmt r1)],[(7,rb 1 s_Stmt r1)],2⟩ ?_
 obtain ⟨r2,hr2,h⟩:=bsome h
 refine Og [(0,rb 0 s_Stmt r1)] [(100,rb 1 s_Stmt r2)] [vs 7 1 s_Stmt r1] [vs 0 0 s_Stmt r1] [(7,0,0)] [(100,8,2)] [(8,rb 2 s_Stmt r2)] (.sl 100 1 0 (s_Stmt.F r2).length false) (.sl 8 2 0 (s_Stmt.F r2).length false) 3 en33 (Clip_Stmt_o_ok hr2) ?_
 refine Sz hT 1 [3] ⟨[(3,.sl 8 2 0 (s_Stmt.F r2).length false)],[(8,rb 2 s_Stmt r2)],3⟩ ?_
 refine WA_seq ?_
 refine Qgd hT 1 [3,9] [(9,.sl 8 2 0 (s_Stmt.F r2).length false)] ?_
 refine One' hT rfl (v_len_own s_Stmt 8 2 false (rb 2 s_Stmt r2) r2) ?_
 refine Szd hT 1 [3,9,10,11] [(10,vi (ln r2)),(11,vi 0)] ?_
 refine WA_block ?_
 refine lK [3,9,10,11] [(8,8,1)] (fun k s=>∃ q,q ≤ k ∧ q ≤ n ∧ ∃ (l3 : List Stmt),∃ (i4 : Int),tree_copyBlock_L0 q a0 r1 r2 l3 i4 = some r ∧ s = ⟨[(3,.sl 8 1 0 (s_Stmt.F l3).length false),(9,.sl 8 1 0 (s_Stmt.F l3).length false),(10,vi (ln r2)),(11,vi i4)],[(8,rb 1 s_Stmt l3)],2⟩) n ⟨n,Nat.le_refl _,Nat.le_refl _,r2,0,h,rfl⟩ (by rintro s ⟨q,hq,_,l3,i4,h,_⟩; obtain rfl:=Nat.le_zero.1 hq; rw [tree_copyBlock_L0] at h; cases h) ?_
 clear h
 rintro k1 s ⟨q1,hk1,hn1,l3,i4,h,rfl⟩
 rcases q1 with _ | q1
 ·rw [tree_copyBlock_L0] at h; cases h
 rw [tree_copyBlock_L0] at h
 refine Qzd hT 1 [3,9,10,11,12] [(12,vb (decide (i4 < (ln r2))))] ?_
 refine WA_seq ?_
 refine Ci h (fun h=>?_) fun h=>?_
 ·refine WA_skip ?_
  refine WA_seq ?_
  refine WA_block ?_
  refine Qgd hT 1 [3,9,10,11,13] [(13,vi i4)] ?_
  obtain ⟨x5,hx5,h⟩:=bsome h
  refine One' hT rfl (v_index_own s_Stmt 8 1 false (rb 1 s_Stmt l3) l3 .i64 i4 hx5) ?_
  refine Sgd hT 0 [3,9,10,11,13,14] [(14,.box 8 1 i4.toNat 0)] ?_
  refine One' hT rfl (v_load_row s_Stmt 8 1 (rb 1 s_Stmt l3) l3 i4.toNat 0 x5 (eStmt x5) (idx_some hx5).2) ?_
  refine Szh hT 3 [3,4,5,9,10,11] [(4,vi i4),(5,bx 5 2)] [(5,cb 2 39 11 (eStmt x5)),(8,rb 1 s_Stmt l3)] 3 ?_
  refine Rgd hT 3 [3,9,10,11,16,17,18] [(16,.sl 8 1 0 (s_Stmt.F l3).length false),(17,vi i4),(18,eStmt x5)] ?_
  obtain ⟨r6,hr6,h⟩:=bsome h
  refine Pt' en32 ((ih _ (by omega)).2 hr6) ?_
  refine Sgd hT 0 [3,9,10,11,16,17,19] [(19,eStmt r6)] ?_
  obtain ⟨x7,hx7,h⟩:=bsome h
  refine One' hT rfl (v_index_own s_Stmt 8 1 false (rb 1 s_Stmt l3) l3 .i64 i4 hx7) ?_
  refine Sg hT 0 [3,9,10,11,19,20] ⟨[(3,.sl 8 1 0 (s_Stmt.F l3).length false),(9,.sl 8 1 0 (s_Stmt.F l3).length false),(10,vi (ln r2)),(11,vi i4),(19,eStmt r6),(20,.box 8 1 i4.toNat 0)],[(5,cb 2 39 11 (eStmt x5)),(8,rb 1 s_Stmt l3)],3⟩ ?_
  refine One' hT rfl (v_storeRow s_Stmt 8 1 (rb 1 s_Stmt l3) l3 i4.toNat 0 x7 r6 (idx_some hx7).2) ?_
  refine oW [3,9,10,11,19] ⟨[(3,.sl 8 1 0 (s_Stmt.F l3).length false),(9,.sl 8 1 0 (s_Stmt.F l3).length false),(10,vi (ln r2)),(11,vi i4),(19,eStmt r6)],[(8,rb 1 s_Stmt (l3.set i4.toNat r6)),(5,cb 2 39 11 (eStmt x5))],3⟩ ?_
  refine WO_weak (wL [(3,.sl 8 1 0 (s_Stmt.F (l3.set i4.toNat r6)).length false),(9,.sl 8 1 0 (s_Stmt.F (l3.set i4.toNat r6)).length false),(10,vi (ln r2)),(11,vi i4),(19,eStmt r6)] [(8,rb 1 s_Stmt (l3.set i4.toNat r6)),(5,cb 2 39 11 (eStmt x5))] ⟨(VLf.slen (by simp [TE.len,lcopy_length,rcopy_length,clr_length])),(VLf.slen (by simp [TE.len,lcopy_length,rcopy_length,clr_length])),VLf.refl _,VLf.refl _,VLf.refl _,trivial⟩ (HLe.refl _)) ?_
  refine Szh hT 0 [3,9,10,11] [] [(8,rb 1 s_Stmt (l3.set i4.toNat r6)),(5,cb 2 39 11 (eStmt x5))] 3 ?_
  refine Rgd hT 2 [3,9,10,11] [(11,vi (wr (i4 + 1)))] ?_
  exact oK [3,9,10,11] [(8,8,1)] ⟨_,by omega,by omega,l3.set i4.toNat r6,wr (i4 + 1),h,rfl⟩
 refine WA_exit ?_
 refine Qzd hT 2 [2] [(2,.sl 8 1 0 (s_Stmt.F l3).length false)] ?_
 obtain rfl:=Option.some.inj h
 exact rK [2] [(8,100,1)] ⟨[(2,.sl 100 1 0 (s_Stmt.F l3).length false)],[(100,rb 1 s_Stmt l3)],2⟩ ⟨by kernel_rfl,by kernel_rfl,rfl⟩
theorem tree_copyStmt_step (n : Nat) (ih : ∀ m,m < n → tree_copyBlock_spec m) : ∀ {a0 : Stmt} {r : Stmt},tree_copyStmt n a0 = some r → PT Try.prog 32 [eStmt a0] (eStmt r):=by
 intro a0 r h
 rcases n with _ | n
 ·rw [tree_copyStmt] at h; cases h
 rw [tree_copyStmt] at h
 refine PT_bodyA hT Try.func32 rfl (by kernel_rfl) fun bad w=>?_
 refine Qz hT 2 [1,2] ⟨[(1,bx 1 0),(2,bx 2 1)],[(2,cb 1 39 11 (.agg [vi 0,vw b0,vw b0,vi 0,vi 0,vi 0,vw b0,vn,vn,vn,vz c0])),(1,cb 0 39 11 (eStmt a0))],2⟩ ?_
 refine WA_seq ?_
 refine WA_drawW hT hM (by kernel_rfl) ?_
 refine Ds 2 [(4,eExpr a0.E),(3,.box 1 0 0 4)] [] [(0,[1]),(1,[1])] ?_
 obtain ⟨r1,hr1,h⟩:=bsome h
 refine Dp [eExpr a0.E] (eExpr r1) en48 (tree_copyExpr_ok hr1) ?_
 refine Ds 2 [(7,po s_Stmt a0.Body),(6,.box 1 0 0 8)] [] [(3,[1]),(4,[1])] ?_
 obtain ⟨r2,hr2,h⟩:=bsome h
 refine Dp [po s_Stmt a0.Body] (po s_Stmt r2) en29 (PT_of_GO ((ih _ (by omega)).1 hr2)) ?_
 refine Ds 2 [(10,po s_Stmt a0.Else),(9,.box 1 0 0 9)] [] [(6,[1]),(7,[1])] ?_
 obtain ⟨r3,hr3,h⟩:=bsome h
 refine Dp [po s_Stmt a0.Else] (po s_Stmt r3) en29 (PT_of_GO ((ih _ (by omega)).1 hr3)) ?_
 refine Dh 6 [(14,.box 1 0 0 9),(13,.box 1 0 0 8),(12,.box 1 0 0 4)] [(1,cb 0 39 11 (.agg [vi a0.Kind,vw a0.Name,vw a0.Other,vi a0.N,vi r1.Kind,vi r1.N,vw r1.Name,po s_Expr r1.Of,po s_Stmt r2,po s_Stmt r3,vz a0.At])),(2,cb 1 39 11 (.agg [vi 0,vw b0,vw b0,vi 0,vi 0,vi 0,vw b0,vn,vn,vn,vz c0]))] 2 [(10,[1]),(12,[1]),(14,[1])] [(9,[1]),(11,[1]),(13,[1])] ?_
 refine De ?_
 refine Wk_done ?_
 refine Qz hT 2 [2] ⟨[(2,bx 2 1)],[(2,cb 1 39 11 (.agg [vi a0.Kind,vw a0.Name,vw a0.Other,vi a0.N,vi r1.Kind,vi r1.N,vw r1.Name,po s_Expr r1.Of,po s_Stmt r2,po s_Stmt r3,vz a0.At])),(1,cb 0 39 11 (.agg [vi a0.Kind,vw a0.Name,vw a0.Other,vi a0.N,vi r1.Kind,vi r1.N,vw r1.Name,po s_Expr r1.Of,po s_Stmt r2,po s_Stmt r3,vz a0.At]))],2⟩ ?_
 refine aW [2] ⟨[(2,bx 2 1)],[(2,cb 1 39 11 (.agg [vi a0.Kind,vw a0.Name,vw a0.Other,vi a0.N,vi r1.Kind,vi r1.N,vw r1.Name,po s_Expr r1.Of,po s_Stmt r2,po s_Stmt r3,vz a0.At])),(1,cb 0 39 11 (.agg [vi a0.Kind,vw a0.Name,vw a0.Other,vi a0.N,vi r1.Kind,vi r1.N,vw r1.Name,po s_Expr r1.Of,po s_Stmt r2,po s_Stmt r3,vz a0.At]))],2⟩ ?_
 refine WA_weak (wL [(2,bx 2 1)] [(2,cb 1 39 11 (eStmt (Stmt.mk a0.Kind a0.Name a0.Other a0.N r1 r2 r3 a0.At))),(1,cb 0 39 11 (.agg [vi a0.Kind,vw a0.Name,vw a0.Other,vi a0.N,vi r1.Kind,vi r1.N,vw r1.Name,po s_Expr r1.Of,po s_Stmt r2,po s_Stmt r3,vz a0.At]))] ⟨VLf.refl _,trivial⟩ ⟨rfl,.inr (.inl ⟨rfl,rfl,CLe.agg ⟨VLf.refl _,VLf.refl _,VLf.refl _,VLf.refl _,VLf.refl _,VLf.refl _,VLf.refl _,VLf.refl _,VLf.refl _,VLf.refl _,VLf.refl _,trivial⟩,trivial⟩),rfl,.inl rfl,trivial⟩) ?_
 obtain rfl:=Option.some.inj h
 exact rR [(2,1000,0)] ⟨[(2,bx 1000 0)],[(1000,cb 0 39 11 (eStmt (Stmt.mk a0.Kind a0.Name a0.Other a0.N r1 r2 r3 a0.At)))],1⟩ ⟨by kernel_rfl,rfl⟩
theorem tree_copyBlock_all (n : Nat) : tree_copyBlock_spec n:=by
 induction n using Nat.strongRecOn with
 | _ n ih=>exact ⟨tree_copyBlock_step n ih,tree_copyStmt_step n ih⟩
theorem tree_copyBlock_ok {n : Nat} {a0 : List Stmt} {r : List Stmt} (h : tree_copyBlock n a0 = some r) : GO Try.prog 29 [] [po s_Stmt a0] (.sl 100 1 0 (s_Stmt.F r).length false) [(100,rb 1 s_Stmt r)]:=(tree_copyBlock_all n).1 h
theorem tree_copyStmt_ok {n : Nat} {a0 : Stmt} {r : Stmt} (h : tree_copyStmt n a0 = some r) : PT Try.prog 32 [eStmt a0] (eStmt r):=(tree_copyBlock_all n).2 h
theorem Clip_Stmt_ok {n : Nat} {a0 : List Stmt} {r : List Stmt} (h : Clip_Stmt n a0 = some r) : PT Try.prog 33 [po s_Stmt a0] (.ps .fopt (s_Stmt.F r)):=by
 unfold Clip_Stmt at h
 refine PT_bodyA hT Try.func33 rfl (by kernel_rfl) fun bad w=>?_
 refine Qzd hT 1 [0] [] ?_
 refine Qgd hT 2 [0,3,4] [(3,po s_Stmt a0),(4,po s_Stmt a0)] ?_
 refine One' hT rfl (v_len s_Stmt .opt a0) ?_
 refine Sgd hT 1 [3,5,6] [(5,vi (ln a0)),(6,po s_Stmt a0)] ?_
 refine One' hT rfl (v_len s_Stmt .opt a0) ?_
 refine Sgd hT 0 [3,5,7] [(7,vi (ln a0))] ?_
 obtain ⟨l1,hl1,h⟩:=bsome h
 refine One' hT rfl (v_slice s_Stmt .opt a0 0 (ln a0) (some (ln a0)) l1 .fopt hl1 (by intro y hy; cases hy; rfl)) ?_
 refine Sz hT 1 [2] ⟨[(2,.ps .fopt (s_Stmt.F l1))],[],0⟩ ?_
 obtain rfl:=Option.some.inj h
 exact rK [2] [] ⟨[(2,.ps .fopt (s_Stmt.F l1))],[],1⟩ ⟨by kernel_rfl,rfl⟩
theorem tree_List_ok {n : Nat} {a0 : Prog} {r : List Stmt} (h : tree_List n a0 = some r) : PT Try.prog 9 [eProg a0] (.ps .fopt (s_Stmt.F r)):=by
 unfold tree_List at h
 refine PT_bodyA hT Try.func9 rfl (by kernel_rfl) fun bad w=>?_
 refine Qz hT 2 [1] ⟨[(1,bx 1 0)],[(1,cb 0 26 2 (eProg a0))],1⟩ ?_
 refine Qzd hT 1 [1,3] [(3,vn)] ?_
 refine WA_seq ?_
 refine Qgd hT 2 [3,9] [(9,po s_LStmt a0.Threads)] ?_
 refine One' hT rfl (v_len s_LStmt .opt a0.Threads) ?_
 refine Szd hT 1 [3,9,10,11] [(10,vi (ln a0.Threads)),(11,vi 0)] ?_
 refine WA_block ?_
 refine aW [3,9,10,11] ⟨[(3,vn),(9,po s_LStmt a0.Threads),(10,vi (ln a0.Threads)),(11,vi 0)],[(1,cb 0 26 2 (eProg a0))],1⟩ ?_
 refine WA_weak (wO 3 5000 39 11) ?_
 refine lK [3,9,10,11] [(5000,10003,0)] (fun k s=>∃ q,q ≤ k ∧ q ≤ n ∧ ∃ (l1 : List Stmt),∃ (i2 : Int),tree_List_L0 q a0 l1 i2 = some r ∧ s = ⟨[(3,vs 10003 0 s_Stmt l1),(9,po s_LStmt a0.Threads),(10,vi (ln a0.Threads)),(11,vi i2)],[(10003,rb 0 s_Stmt l1)],1⟩) n ⟨n,Nat.le_refl _,Nat.le_refl _,([] : List Stmt),0,h,rfl⟩ (by rintro s ⟨q,hq,_,l1,i2,h,_⟩; obtain rfl:=Nat.le_zero.1 hq; rw [tree_List_L0] at h; cases h) ?_
 clear h
 rintro k1 s ⟨q1,hk1,hn1,l1,i2,h,rfl⟩
 rcases q1 with _ | q1
 ·rw [tree_List_L0] at h; cases h
 rw [tree_List_L0] at h
 refine Qzd hT 1 [3,9,10,11,12] [(12,vb (decide (i2 < (ln a0.Threads))))] ?_
 refine WA_seq ?_
 refine Ci h (fun h=>?_) fun h=>?_
 ·refine WA_skip ?_
  refine WA_seq ?_
  refine WA_block ?_
  refine Qgd hT 0 [3,9,10,11] [] ?_
  obtain ⟨x3,hx3,h⟩:=bsome h
  refine One' hT rfl (v_index s_LStmt .opt a0.Threads .i64 i2 hx3) ?_
  refine Sz hT 2 [3,5,9,10,11] ⟨[(3,vs 10003 0 s_Stmt l1),(5,po s_Stmt x3),(9,po s_LStmt a0.Threads),(10,vi (ln a0.Threads)),(11,vi i2)],[(10003,rb 0 s_Stmt l1)],1⟩ ?_
  refine Rgd hT 2 [9,10,11,15,16] [(15,vs 10003 0 s_Stmt l1),(16,po s_Stmt x3)] ?_
  obtain ⟨r4,hr4,h⟩:=bsome h
  refine Og [(0,rb 0 s_Stmt l1)] [(100,rb 1 s_Stmt r4)] [vs 10003 0 s_Stmt l1,po s_Stmt x3] [vs 0 0 s_Stmt l1,po s_Stmt x3] [(10003,0,0)] [(100,17,1)] [(17,rb 1 s_Stmt r4)] (vs 100 1 s_Stmt r4) (vs 17 1 s_Stmt r4) 2 en31 (tree_listed_o_ok hr4) ?_
  refine Szh hT 1 [3,9,10,11] [(3,vs 17 1 s_Stmt r4)] [(17,rb 1 s_Stmt r4)] 2 ?_
  refine Rgd hT 2 [3,9,10,11] [(11,vi (wr (i2 + 1)))] ?_
  exact oK [3,9,10,11] [(17,10003,0)] ⟨_,by omega,by omega,r4,wr (i2 + 1),h,rfl⟩
 refine WA_exit ?_
 refine WA_seq ?_
 refine Qgd hT 1 [3,19] [(19,vs 10003 0 s_Stmt l1)] ?_
 refine One' hT rfl (v_len_own s_Stmt 10003 0 true (rb 0 s_Stmt l1) l1) ?_
 refine Szd hT 1 [3,19,20,21] [(20,vi (ln l1)),(21,vi 0)] ?_
 refine WA_block ?_
 refine lK [3,19,20,21] [(10003,10003,0)] (fun k s=>∃ q,q ≤ k ∧ q ≤ q1 ∧ ∃ (l5 : List Stmt),∃ (i6 : Int),tree_List_L1 q a0 l1 i2 l5 i6 = some r ∧ s = ⟨[(3,vs 10003 0 s_Stmt l5),(19,vs 10003 0 s_Stmt l5),(20,vi (ln l1)),(21,vi i6)],[(10003,rb 0 s_Stmt l5)],1⟩) q1 ⟨q1,Nat.le_refl _,Nat.le_refl _,l1,0,h,rfl⟩ (by rintro s ⟨q,hq,_,l5,i6,h,_⟩; obtain rfl:=Nat.le_zero.1 hq; rw [tree_List_L1] at h; cases h) ?_
 clear h
 rintro k2 s ⟨q2,hk2,hn2,l5,i6,h,rfl⟩
 rcases q2 with _ | q2
 ·rw [tree_List_L1] at h; cases h
 rw [tree_List_L1] at h
 refine Qzd hT 1 [3,19,20,21,22] [(22,vb (decide (i6 < (ln l1))))] ?_
 refine WA_seq ?_
 refine Ci h (fun h=>?_) fun h=>?_
 ·refine WA_skip ?_
  refine WA_seq ?_
  refine WA_block ?_
  refine Qgd hT 1 [3,19,20,21,23] [(23,vi i6)] ?_
  obtain ⟨x7,hx7,h⟩:=bsome h
  refine One' hT rfl (v_index_own s_Stmt 10003 0 true (rb 0 s_Stmt l5) l5 .i64 i6 hx7) ?_
  refine Sgd hT 0 [3,19,20,21,23,24] [(24,.box 10003 0 i6.toNat 0)] ?_
  refine One' hT rfl (v_load_row s_Stmt 10003 0 (rb 0 s_Stmt l5) l5 i6.toNat 0 x7 (eStmt x7) (idx_some hx7).2) ?_
  refine Sz hT 3 [3,6,7,19,20,21] ⟨[(3,vs 10003 0 s_Stmt l5),(6,vi i6),(7,bx 7 1),(19,vs 10003 0 s_Stmt l5),(20,vi (ln l1)),(21,vi i6)],[(7,cb 1 39 11 (eStmt x7)),(10003,rb 0 s_Stmt l5)],2⟩ ?_
  refine Rgd hT 3 [3,19,20,21,26,27,28] [(26,vs 10003 0 s_Stmt l5),(27,vi i6),(28,eStmt x7)] ?_
  obtain ⟨r8,hr8,h⟩:=bsome h
  refine Pt' en32 (tree_copyStmt_ok hr8) ?_
  refine Sgd hT 0 [3,19,20,21,26,27,29] [(29,eStmt r8)] ?_
  obtain ⟨x9,hx9,h⟩:=bsome h
  refine One' hT rfl (v_index_own s_Stmt 10003 0 true (rb 0 s_Stmt l5) l5 .i64 i6 hx9) ?_
  refine Sgd hT 0 [3,19,20,21,29,30] [(30,.box 10003 0 i6.toNat 0)] ?_
  refine One' hT rfl (v_storeRow s_Stmt 10003 0 (rb 0 s_Stmt l5) l5 i6.toNat 0 x9 r8 (idx_some hx9).2) ?_
  refine oW [3,19,20,21,29] ⟨[(3,vs 10003 0 s_Stmt l5),(19,vs 10003 0 s_Stmt l5),(20,vi (ln l1)),(21,vi i6),(29,eStmt r8)],[(10003,rb 0 s_Stmt (l5.set i6.toNat r8)),(7,cb 1 39 11 (eStmt x7))],2⟩ ?_
  refine WO_weak (wL [(3,vs 10003 0 s_Stmt (l5.set i6.toNat r8)),(19,vs 10003 0 s_Stmt (l5.set i6.toNat r8)),(20,vi (ln l1)),(21,vi i6),(29,eStmt r8)] [(10003,rb 0 s_Stmt (l5.set i6.toNat r8)),(7,cb 1 39 11 (eStmt x7))] ⟨(VLf.slen (by simp [TE.len,lcopy_length,rcopy_length,clr_length])),(VLf.slen (by simp [TE.len,lcopy_length,rcopy_length,clr_length])),VLf.refl _,VLf.refl _,VLf.refl _,trivial⟩ (HLe.refl _)) ?_
  refine Szh hT 0 [3,19,20,21] [] [(10003,rb 0 s_Stmt (l5.set i6.toNat r8)),(7,cb 1 39 11 (eStmt x7))] 2 ?_
  refine Rgd hT 2 [3,19,20,21] [(21,vi (wr (i6 + 1)))] ?_
  exact oK [3,19,20,21] [(10003,10003,0)] ⟨_,by omega,by omega,l5.set i6.toNat r8,wr (i6 + 1),h,rfl⟩
 refine WA_exit ?_
 refine Qgd hT 1 [32] [(32,vs 10003 0 s_Stmt l5)] ?_
 refine WO_weak (wF 10003 0 (rb 0 s_Stmt l5) [(32,po s_Stmt l5)] [] ⟨rfl,.hit true,trivial⟩ trivial) ?_
 obtain ⟨r10,hr10,h⟩:=bsome h
 refine Pt' en33 (Clip_Stmt_ok hr10) ?_
 refine Sz hT 1 [2] ⟨[(2,.ps .fopt (s_Stmt.F r10))],[],1⟩ ?_
 obtain rfl:=Option.some.inj h
 exact rK [2] [] ⟨[(2,.ps .fopt (s_Stmt.F r10))],[],1⟩ ⟨by kernel_rfl,rfl⟩
end Go.Su.Ytogllinpkijkpaa
