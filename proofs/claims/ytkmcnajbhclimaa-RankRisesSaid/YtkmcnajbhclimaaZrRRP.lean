/-
  The functions of the program compute that.
-/
import Derived.Test.YtkmcnajbhclimaaZrRRPb
namespace Go.Su.Ytkmcnajbhclimaa
open Go.Mx Go.Proofs
set_option maxRecDepth 100000
set_option maxHeartbeats 20000000
set_option linter.unusedVariables false
set_option linter.unusedSimpArgs false
def tree_copyExpr_spec (n : Nat) : Prop:=(∀ {a0 : Expr} {r : Expr},tree_copyExpr n a0 = some r → PT Try.prog 83 [eExpr a0] (eExpr r))
theorem tree_copyExpr_step (n : Nat) (ih : ∀ m,m < n → tree_copyExpr_spec m) : ∀ {a0 : Expr} {r : Expr},tree_copyExpr n a0 = some r → PT Try.prog 83 [eExpr a0] (eExpr r):=by
 intro a0 r h
 rcases n with _ | n
 ·rw [tree_copyExpr] at h; cases h
 rw [tree_copyExpr] at h
 refine PT_bodyA hT Try.func83 rfl (by kernel_rfl) fun bad w=>?_
 refine Qz hT 2 [1,2] ⟨[(1,bx 1 0),(2,bx 2 1)],[(2,cb 1 93 4 (.agg [vi 0,vi 0,vw b0,vn])),(1,cb 0 93 4 (eExpr a0))],2⟩ ?_
 refine Qgd hT 2 [1,2,6] [(6,po s_Expr a0.Of)] ?_
 obtain ⟨r1,hr1,h⟩:=bsome h
 refine Og [] [(100,rb 1 s_Expr r1)] [po s_Expr a0.Of] [po s_Expr a0.Of] [] [(100,7,2)] [(7,rb 2 s_Expr r1)] (vs 100 1 s_Expr r1) (vs 7 2 s_Expr r1) 3 en91 (Clone_Expr_ok hr1) ?_
 refine Sgh hT 0 [1,2,7] [(7,vs 7 2 s_Expr r1)] [(7,rb 2 s_Expr r1),(2,cb 1 93 4 (.agg [vi 0,vi 0,vw b0,vn])),(1,cb 0 93 4 (eExpr a0))] 3 ?_
 obtain ⟨r2,hr2,h⟩:=bsome h
 refine Og [(0,rb 0 s_Expr r1)] [(100,rb 1 s_Expr r2)] [vs 7 2 s_Expr r1] [vs 0 0 s_Expr r1] [(7,0,0)] [(100,8,3)] [(8,rb 3 s_Expr r2)] (.sl 100 1 0 (s_Expr.F r2).length false) (.sl 8 3 0 (s_Expr.F r2).length false) 4 en90 (Clip_Expr_o_ok hr2) ?_
 refine Szh hT 2 [1,2] [] [(1,cb 0 93 4 (.agg [vi a0.Kind,vi a0.N,vw a0.Name,.sl 8 3 0 (s_Expr.F r2).length false])),(8,rb 3 s_Expr r2),(2,cb 1 93 4 (.agg [vi 0,vi 0,vw b0,vn]))] 4 ?_
 refine WA_seq ?_
 refine Qgd hT 2 [1,2,11] [(11,.sl 8 3 0 (s_Expr.F r2).length false)] ?_
 refine One' hT rfl (v_len_own s_Expr 8 3 false (rb 3 s_Expr r2) r2) ?_
 refine Szd hT 1 [1,2,11,12,13] [(12,vi (ln r2)),(13,vi 0)] ?_
 refine WA_block ?_
 refine lK [1,2,11,12,13] [(1,1,0),(2,2,0),(8,8,0)] (fun k s=>∃ q,q ≤ k ∧ q ≤ n ∧ ∃ (l4 : List Expr),∃ (w5 : ByteArray),∃ (i6 : Int),tree_copyExpr_L0 q a0 r1 r2 l4 w5 i6 = some r ∧ s = ⟨[(1,bx 1 0),(2,bx 2 0),(11,.sl 8 0 0 (s_Expr.F l4).length false),(12,vi (ln r2)),(13,vi i6)],[(1,cb 0 93 4 (.agg [vi a0.Kind,vi a0.N,vw a0.Name,.sl 8 0 0 (s_Expr.F l4).length false])),(2,cb 0 93 4 (.agg [vi 0,vi 0,vw w5,vn])),(8,rb 0 s_Expr l4)],1⟩) n ⟨n,Nat.le_refl _,Nat.le_refl _,r2,b0,0,h,rfl⟩ (by rintro s ⟨q,hq,_,l4,w5,i6,h,_⟩; obtain rfl:=Nat.le_zero.1 hq; rw [tree_copyExpr_L0] at h; cases h) ?_
 clear h
 rintro k1 s ⟨q1,hk1,hn1,l4,w5,i6,h,rfl⟩
 rcases q1 with _ | q1
 ·rw [tree_copyExpr_L0] at h; cases h
 rw [tree_copyExpr_L0] at h
 refine Qzd hT 1 [1,2,11,12,13,14] [(14,vb (decide (i6 < (ln r2))))] ?_
 refine WA_seq ?_
 refine Ci h (fun h=>?_) fun h=>?_
 ·refine WA_skip ?_
  refine WA_seq ?_
  refine WA_block ?_
  refine Qgd hT 1 [1,2,11,12,13,15] [(15,vi i6)] ?_
  obtain ⟨x7,hx7,h⟩:=bsome h
  refine One' hT rfl (v_index_own s_Expr 8 0 false (rb 0 s_Expr l4) l4 .i64 i6 hx7) ?_
  refine Sg hT 0 [1,2,11,12,13,15,16] ⟨[(1,bx 1 0),(2,bx 2 0),(11,.sl 8 0 0 (s_Expr.F l4).length false),(12,vi (ln r2)),(13,vi i6),(15,vi i6),(16,.box 8 0 i6.toNat 0)],[(1,cb 0 93 4 (.agg [vi a0.Kind,vi a0.N,vw a0.Name,.sl 8 0 0 (s_Expr.F l4).length false])),(2,cb 0 93 4 (.agg [vi 0,vi 0,vw w5,vn])),(8,rb 0 s_Expr l4)],1⟩ ?_
  refine One' hT rfl (v_load_row s_Expr 8 0 (rb 0 s_Expr l4) l4 i6.toNat 0 x7 (eExpr x7) (idx_some hx7).2) ?_
  refine Szh hT 3 [1,2,3,4,11,12,13] [(3,vi i6),(4,bx 4 1)] [(4,cb 1 93 4 (eExpr x7)),(1,cb 0 93 4 (.agg [vi a0.Kind,vi a0.N,vw a0.Name,.sl 8 0 0 (s_Expr.F l4).length false])),(2,cb 0 93 4 (.agg [vi 0,vi 0,vw w5,vn])),(8,rb 0 s_Expr l4)] 2 ?_
  refine WA_drawW hT hM (by kernel_rfl) ?_
  refine Ds 4 [(21,eExpr x7),(20,vi i6),(19,.sl 8 0 0 (s_Expr.F l4).length false),(18,.box 1 0 0 3)] [] [(0,[1]),(1,[1]),(3,[4])] ?_
  obtain ⟨r8,hr8,h⟩:=bsome h
  refine Dp [eExpr x7] (eExpr r8) en83 ((ih _ (by omega)) hr8) ?_
  obtain ⟨x9,hx9,h⟩:=bsome h
  refine Dl rfl (v_index_own s_Expr 8 0 false (rb 0 s_Expr l4) l4 .i64 i6 hx9) ?_
  refine Dt (.box 8 0 i6.toNat 0) ?_
  refine Dw rfl (v_storeRow s_Expr 8 0 (rb 0 s_Expr l4) l4 i6.toNat 0 x9 r8 (idx_some hx9).2) ?_
  refine De ?_
  refine kW [1,2,11,12,13] ⟨[(1,bx 1 0),(2,bx 2 0),(11,.sl 8 0 0 (s_Expr.F l4).length false),(12,vi (ln r2)),(13,vi i6)],[(8,rb 0 s_Expr (l4.set i6.toNat r8)),(4,cb 1 93 4 (eExpr x7)),(1,cb 0 93 4 (.agg [vi a0.Kind,vi a0.N,vw a0.Name,.sl 8 0 0 (s_Expr.F l4).length false])),(2,cb 0 93 4 (.agg [vi 0,vi 0,vw w5,vn]))],2⟩ ?_
  refine Wk_step (wL [(1,bx 1 0),(2,bx 2 0),(11,.sl 8 0 0 (s_Expr.F (l4.set i6.toNat r8)).length false),(12,vi (ln r2)),(13,vi i6)] [(8,rb 0 s_Expr (l4.set i6.toNat r8)),(4,cb 1 93 4 (eExpr x7)),(1,cb 0 93 4 (.agg [vi a0.Kind,vi a0.N,vw a0.Name,.sl 8 0 0 (s_Expr.F (l4.set i6.toNat r8)).length false])),(2,cb 0 93 4 (.agg [vi 0,vi 0,vw w5,vn]))] ⟨VLf.refl _,VLf.refl _,(VLf.slen (by simp [TE.len,lcopy_length,rcopy_length,clr_length])),VLf.refl _,VLf.refl _,trivial⟩ ⟨rfl,.inl rfl,rfl,.inl rfl,rfl,.inr (.inl ⟨rfl,rfl,CLe.agg ⟨VLf.refl _,VLf.refl _,VLf.refl _,(VLf.slen (by simp [TE.len,lcopy_length,rcopy_length,clr_length])),trivial⟩,trivial⟩),rfl,.inl rfl,trivial⟩) ?_
  refine Wk_done ?_
  refine Rgd hT 2 [1,2,11,12,13] [(13,vi (wr (i6 + 1)))] ?_
  exact oK [1,2,11,12,13] [(1,1,0),(2,2,0),(8,8,0)] ⟨_,by omega,by omega,l4.set i6.toNat r8,w5,wr (i6 + 1),h,rfl⟩
 refine WA_exit ?_
 refine Qz hT 2 [2] ⟨[(2,bx 2 0)],[(2,cb 0 93 4 (.agg [vi a0.Kind,vi a0.N,vw a0.Name,.sl 8 0 0 (s_Expr.F l4).length false])),(1,cb 0 93 4 (.agg [vi a0.Kind,vi a0.N,vw a0.Name,.sl 8 0 0 (s_Expr.F l4).length false])),(8,rb 0 s_Expr l4)],1⟩ ?_
 refine aW [2] ⟨[(2,bx 2 0)],[(2,cb 0 93 4 (.agg [vi a0.Kind,vi a0.N,vw a0.Name,.sl 8 0 0 (s_Expr.F l4).length false])),(1,cb 0 93 4 (.agg [vi a0.Kind,vi a0.N,vw a0.Name,.sl 8 0 0 (s_Expr.F l4).length false])),(8,rb 0 s_Expr l4)],1⟩ ?_
 refine WA_weak (wF 8 0 (rb 0 s_Expr l4) [(2,bx 2 0)] [(2,cb 0 93 4 (.agg [vi a0.Kind,vi a0.N,vw a0.Name,po s_Expr l4])),(1,cb 0 93 4 (.agg [vi a0.Kind,vi a0.N,vw a0.Name,po s_Expr l4]))] ⟨rfl,.keep _,trivial⟩ ⟨rfl,.inr ⟨rfl,rfl,.aggs ⟨.keep _,.keep _,.keep _,.hit false,trivial⟩,trivial⟩,rfl,.inr ⟨rfl,rfl,.aggs ⟨.keep _,.keep _,.keep _,.hit false,trivial⟩,trivial⟩,trivial⟩) ?_
 refine WA_weak (wL [(2,bx 2 0)] [(2,cb 0 93 4 (eExpr (Expr.mk a0.Kind a0.N a0.Name l4))),(1,cb 0 93 4 (.agg [vi a0.Kind,vi a0.N,vw a0.Name,po s_Expr l4]))] ⟨VLf.refl _,trivial⟩ ⟨rfl,.inr (.inl ⟨rfl,rfl,CLe.agg ⟨VLf.refl _,VLf.refl _,VLf.refl _,VLf.refl _,trivial⟩,trivial⟩),rfl,.inl rfl,trivial⟩) ?_
 obtain rfl:=Option.some.inj h
 exact rR [(2,1000,0)] ⟨[(2,bx 1000 0)],[(1000,cb 0 93 4 (eExpr (Expr.mk a0.Kind a0.N a0.Name l4)))],1⟩ ⟨by kernel_rfl,rfl⟩
theorem tree_copyExpr_all (n : Nat) : tree_copyExpr_spec n:=by
 induction n using Nat.strongRecOn with
 | _ n ih=>exact tree_copyExpr_step n ih
theorem tree_copyExpr_ok {n : Nat} {a0 : Expr} {r : Expr} (h : tree_copyExpr n a0 = some r) : PT Try.prog 83 [eExpr a0] (eExpr r):=(tree_copyExpr_all n) h
theorem Clone_Stmt_ok {n : Nat} {a0 : List Stmt} {r : List Stmt} (h : Clone_Stmt n a0 = some r) : GO Try.prog 92 [] [po s_Stmt a0] (vs 100 1 s_Stmt r) [(100,rb 1 s_Stmt r)]:=by
 unfold Clone_Stmt at h
 refine GO_bodyA hT Try.func92 rfl [] (by kernel_rfl) fun bad w m=>?_
 refine Qzd hT 1 [0] [] ?_
 refine WA_seq ?_
 refine Qgd hT 1 [0,3] [(3,po s_Stmt a0)] ?_
 refine WO_isnil' hT s_Stmt rfl (by kernel_rfl) .opt a0 rfl (by kernel_rfl) (by kernel_rfl) ?_
 intro b1 hnil
 cases b1
 ·clear hnil
  refine Szh hT 0 [0,4] [(4,vb false)] [] 1 ?_
  refine WA_cond false (by kernel_rfl) (fun hb=>by cases hb) (fun _=>?_)
  refine WA_skip ?_
  refine Qg hT 2 [5,6] ⟨[(5,vs 5 1 s_Stmt ([] : List Stmt)),(6,po s_Stmt a0)],[(5,⟨1,95,11,false,false,s_Stmt.F ([] : List Stmt)⟩)],2⟩ ?_
  obtain ⟨g2,h⟩:=gsome h
  refine Oa hT s_Stmt 5 1 false ([] : List Stmt) a0 (by kernel_rfl) g2 ?_
  refine Sz hT 1 [2] ⟨[(2,vs 7 2 s_Stmt (([] : List Stmt) ++ a0))],[(7,rb 2 s_Stmt (([] : List Stmt) ++ a0))],3⟩ ?_
  obtain rfl:=Option.some.inj h
  exact rK [2] [(7,100,1)] ⟨[(2,vs 100 1 s_Stmt (([] : List Stmt) ++ a0))],[(100,rb 1 s_Stmt (([] : List Stmt) ++ a0))],2⟩ ⟨by kernel_rfl,by kernel_rfl,rfl⟩
 ·replace h : some ([] : List Stmt) = some r:=by (have e:=hnil rfl; subst e; first | exact h | (obtain ⟨_,h⟩:=gsome h; simpa using h))
  clear hnil
  refine Szh hT 0 [0,4] [(4,vb true)] [] 1 ?_
  refine WA_cond true (by kernel_rfl) (fun _=>?_) (fun hb=>by cases hb)
  refine Qz hT 1 [2] ⟨[(2,vn)],[],1⟩ ?_
  refine aW [2] ⟨[(2,vn)],[],1⟩ ?_
  refine WA_weak (wO 2 5000 95 11) ?_
  obtain rfl:=Option.some.inj h
  exact rK [2] [(5000,100,1)] ⟨[(2,vs 100 1 s_Stmt ([] : List Stmt))],[(100,rb 1 s_Stmt ([] : List Stmt))],2⟩ ⟨by kernel_rfl,by kernel_rfl,rfl⟩
theorem Clip_Stmt_o_ok {n : Nat} {a0 : List Stmt} {r : List Stmt} (h : Clip_Stmt_o n a0 = some r) : GO Try.prog 64 [(0,rb 0 s_Stmt a0)] [vs 0 0 s_Stmt a0] (.sl 100 1 0 (s_Stmt.F r).length false) [(100,rb 1 s_Stmt r)]:=by
 unfold Clip_Stmt_o at h
 refine GO_bodyA hT Try.func64 rfl [] (by kernel_rfl) fun bad w m=>?_
 refine Qzd hT 1 [0] [] ?_
 refine Qgd hT 2 [0,3,4] [(3,vs 0 0 s_Stmt a0),(4,vs 0 0 s_Stmt a0)] ?_
 refine One' hT rfl (v_len_own s_Stmt 0 0 true (rb 0 s_Stmt a0) a0) ?_
 refine Sgd hT 1 [3,5,6] [(5,vi (ln a0)),(6,vs 0 0 s_Stmt a0)] ?_
 refine One' hT rfl (v_len_own s_Stmt 0 0 true (rb 0 s_Stmt a0) a0) ?_
 refine Sgd hT 0 [3,5,7] [(7,vi (ln a0))] ?_
 refine WO_clip' hT s_Stmt rfl (by kernel_rfl) 0 0 (s_Stmt.F a0).length true (rb 0 s_Stmt a0) rfl (by kernel_rfl) (by kernel_rfl) rfl (by rw [TE.len]; kernel_rfl) (by rw [TE.len]; kernel_rfl) (by kernel_rfl) ?_
 refine Sz hT 1 [2] ⟨[(2,.sl 0 0 0 (s_Stmt.F a0).length false)],[(0,rb 0 s_Stmt a0)],1⟩ ?_
 obtain rfl:=Option.some.inj h
 exact rK [2] [(0,100,1)] ⟨[(2,.sl 100 1 0 (s_Stmt.F a0).length false)],[(100,rb 1 s_Stmt a0)],2⟩ ⟨by kernel_rfl,by kernel_rfl,rfl⟩
def tree_copyBlock_spec (n : Nat) : Prop:=(∀ {a0 : List Stmt} {r : List Stmt},tree_copyBlock n a0 = some r → GO Try.prog 84 [] [po s_Stmt a0] (.sl 100 1 0 (s_Stmt.F r).length false) [(100,rb 1 s_Stmt r)]) ∧ (∀ {a0 : Stmt} {r : Stmt},tree_copyStmt n a0 = some r → PT Try.prog 63 [eStmt a0] (eStmt r))
theorem tree_copyBlock_step (n : Nat) (ih : ∀ m,m < n → tree_copyBlock_spec m) : ∀ {a0 : List Stmt} {r : List Stmt},tree_copyBlock n a0 = some r → GO Try.prog 84 [] [po s_Stmt a0] (.sl 100 1 0 (s_Stmt.F r).length false) [(100,rb 1 s_Stmt r)]:=by
 intro a0 r h
 rcases n with _ | n
 ·rw [tree_copyBlock] at h; cases h
 rw [tree_copyBlock] at h
 refine GO_bodyA hT Try.func84 rfl [] (by kernel_rfl) fun bad w m=>?_
 refine Qzd hT 1 [0] [] ?_
 refine Qg hT 1 [6] ⟨[(6,po s_Stmt a0)],[],1⟩ ?_
 obtain ⟨r1,hr1,h⟩:=bsome h
 refine Og [] [(100,rb 1 s_Stmt r1)] [po s_Stmt a0] [po s_Stmt a0] [] [(100,7,1)] [(7,rb 1 s_Stmt r1)] (vs 100 1 s_Stmt r1) (vs 7 1 s_Stmt r1) 2 en92 (Clone_Stmt_ok hr1) ?_
 refine Sg hT 0 [7] ⟨[(7,vs 7 1 s_Stmt r1)],[(7,rb 1 s_Stmt r1)],2⟩ ?_
 obtain ⟨r2,hr2,h⟩:=bsome h
 refine Og [(0,rb 0 s_Stmt r1)] [(100,rb 1 s_Stmt r2)] [vs 7 1 s_Stmt r1] [vs 0 0 s_Stmt r1] [(7,0,0)] [(100,8,2)] [(8,rb 2 s_Stmt r2)] (.sl 100 1 0 (s_Stmt.F r2).length false) (.sl 8 2 0 (s_Stmt.F r2).length false) 3 en64 (Clip_Stmt_o_ok hr2) ?_
 refine Sz hT 1 [3] ⟨[(3,.sl 8 2 0 (s_Stmt.F r2).length false)],[(8,rb 2 s_Stmt r2)],3⟩ ?_
 refine WA_seq ?_
 refine Qgd hT 1 [3,9] [(9,.sl 8 2 0 (s_Stmt.F r2).length false)] ?_
 refine One' hT rfl (v_len_own s_Stmt 8 2 false (rb 2 s_Stmt r2) r2) ?_
 refine Szd hT 1 [3,9,10,11] [(10,vi (ln r2)),(11,vi 0)] ?_
 refine WA_block ?_
 refine lK [3,9,10,11] [(8,8,1)] (fun k s=>∃ q,q ≤ k ∧ q ≤ n ∧ ∃ (l3 : List Stmt),∃ (i4 : Int),tree_copyBlock_L0 q a0 r1 r2 l3 i4 = some r ∧ s = ⟨[(3,.sl 8 1 0 (s_Stmt.F l3).length false),(9,.sl 8 1 0 (s_Stmt.F l3).length false),(10,vi (ln r2)),(11,vi i4)],[(8,rb 1 s_Stmt l3)],2⟩) n ⟨n,Nat.le_refl _,Nat.le_refl _,r2,0,h,rfl⟩ (by rintro s ⟨q,hq,_,l3,i4,h,_⟩; obtain rfl:=Nat.le_zero.1 hq; rw [tree_copyBlock_L0] at h; cases h) ?_
 clear h
 rintro k1 s ⟨q1,hk1,hn1,l3,i4,h,rfl⟩
 rcases q1 with _ | q1
 ·rw [tree_copyBlock_L0] at h; cases h
 rw [tree_copyBlock_L0] at h
 refine Qzd hT 1 [3,9,10,11,12] [(12,vb (decide (i4 < (ln r2))))] ?_
 refine WA_seq ?_
 refine Ci h (fun h=>?_) fun h=>?_
 ·refine WA_skip ?_
  refine WA_seq ?_
  refine WA_block ?_
  refine Qgd hT 1 [3,9,10,11,13] [(13,vi i4)] ?_
  obtain ⟨x5,hx5,h⟩:=bsome h
  refine One' hT rfl (v_index_own s_Stmt 8 1 false (rb 1 s_Stmt l3) l3 .i64 i4 hx5) ?_
  refine Sgd hT 0 [3,9,10,11,13,14] [(14,.box 8 1 i4.toNat 0)] ?_
  refine One' hT rfl (v_load_row s_Stmt 8 1 (rb 1 s_Stmt l3) l3 i4.toNat 0 x5 (eStmt x5) (idx_some hx5).2) ?_
  refine Szh hT 3 [3,4,5,9,10,11] [(4,vi i4),(5,bx 5 2)] [(5,cb 2 95 11 (eStmt x5)),(8,rb 1 s_Stmt l3)] 3 ?_
  refine Rgd hT 3 [3,9,10,11,16,17,18] [(16,.sl 8 1 0 (s_Stmt.F l3).length false),(17,vi i4),(18,eStmt x5)] ?_
  obtain ⟨r6,hr6,h⟩:=bsome h
  refine Pt' en63 ((ih _ (by omega)).2 hr6) ?_
  refine Sgd hT 0 [3,9,10,11,16,17,19] [(19,eStmt r6)] ?_
  obtain ⟨x7,hx7,h⟩:=bsome h
  refine One' hT rfl (v_index_own s_Stmt 8 1 false (rb 1 s_Stmt l3) l3 .i64 i4 hx7) ?_
  refine Sg hT 0 [3,9,10,11,19,20] ⟨[(3,.sl 8 1 0 (s_Stmt.F l3).length false),(9,.sl 8 1 0 (s_Stmt.F l3).length false),(10,vi (ln r2)),(11,vi i4),(19,eStmt r6),(20,.box 8 1 i4.toNat 0)],[(5,cb 2 95 11 (eStmt x5)),(8,rb 1 s_Stmt l3)],3⟩ ?_
  refine One' hT rfl (v_storeRow s_Stmt 8 1 (rb 1 s_Stmt l3) l3 i4.toNat 0 x7 r6 (idx_some hx7).2) ?_
  refine oW [3,9,10,11,19] ⟨[(3,.sl 8 1 0 (s_Stmt.F l3).length false),(9,.sl 8 1 0 (s_Stmt.F l3).length false),(10,vi (ln r2)),(11,vi i4),(19,eStmt r6)],[(8,rb 1 s_Stmt (l3.set i4.toNat r6)),(5,cb 2 95 11 (eStmt x5))],3⟩ ?_
  refine WO_weak (wL [(3,.sl 8 1 0 (s_Stmt.F (l3.set i4.toNat r6)).length false),(9,.sl 8 1 0 (s_Stmt.F (l3.set i4.toNat r6)).length false),(10,vi (ln r2)),(11,vi i4),(19,eStmt r6)] [(8,rb 1 s_Stmt (l3.set i4.toNat r6)),(5,cb 2 95 11 (eStmt x5))] ⟨(VLf.slen (by simp [TE.len,lcopy_length,rcopy_length,clr_length])),(VLf.slen (by simp [TE.len,lcopy_length,rcopy_length,clr_length])),VLf.refl _,VLf.refl _,VLf.refl _,trivial⟩ (HLe.refl _)) ?_
  refine Szh hT 0 [3,9,10,11] [] [(8,rb 1 s_Stmt (l3.set i4.toNat r6)),(5,cb 2 95 11 (eStmt x5))] 3 ?_
  refine Rgd hT 2 [3,9,10,11] [(11,vi (wr (i4 + 1)))] ?_
  exact oK [3,9,10,11] [(8,8,1)] ⟨_,by omega,by omega,l3.set i4.toNat r6,wr (i4 + 1),h,rfl⟩
 refine WA_exit ?_
 refine Qzd hT 2 [2] [(2,.sl 8 1 0 (s_Stmt.F l3).length false)] ?_
 obtain rfl:=Option.some.inj h
 exact rK [2] [(8,100,1)] ⟨[(2,.sl 100 1 0 (s_Stmt.F l3).length false)],[(100,rb 1 s_Stmt l3)],2⟩ ⟨by kernel_rfl,by kernel_rfl,rfl⟩
theorem tree_copyStmt_step (n : Nat) (ih : ∀ m,m < n → tree_copyBlock_spec m) : ∀ {a0 : Stmt} {r : Stmt},tree_copyStmt n a0 = some r → PT Try.prog 63 [eStmt a0] (eStmt r):=by
 intro a0 r h
 rcases n with _ | n
 ·rw [tree_copyStmt] at h; cases h
 rw [tree_copyStmt] at h
 refine PT_bodyA hT Try.func63 rfl (by kernel_rfl) fun bad w=>?_
 refine Qz hT 2 [1,2] ⟨[(1,bx 1 0),(2,bx 2 1)],[(2,cb 1 95 11 (.agg [vi 0,vw b0,vw b0,vi 0,vi 0,vi 0,vw b0,vn,vn,vn,vz c0])),(1,cb 0 95 11 (eStmt a0))],2⟩ ?_
 refine WA_seq ?_
 refine WA_drawW hT hM (by kernel_rfl) ?_
 refine Ds 2 [(4,eExpr a0.E),(3,.box 1 0 0 4)] [] [(0,[1]),(1,[1])] ?_
 obtain ⟨r1,hr1,h⟩:=bsome h
 refine Dp [eExpr a0.E] (eExpr r1) en83 (tree_copyExpr_ok hr1) ?_
 refine Ds 2 [(7,po s_Stmt a0.Body),(6,.box 1 0 0 8)] [] [(3,[1]),(4,[1])] ?_
 obtain ⟨r2,hr2,h⟩:=bsome h
 refine Dp [po s_Stmt a0.Body] (po s_Stmt r2) en84 (PT_of_GO ((ih _ (by omega)).1 hr2)) ?_
 refine Ds 2 [(10,po s_Stmt a0.Else),(9,.box 1 0 0 9)] [] [(6,[1]),(7,[1])] ?_
 obtain ⟨r3,hr3,h⟩:=bsome h
 refine Dp [po s_Stmt a0.Else] (po s_Stmt r3) en84 (PT_of_GO ((ih _ (by omega)).1 hr3)) ?_
 refine Dh 6 [(14,.box 1 0 0 9),(13,.box 1 0 0 8),(12,.box 1 0 0 4)] [(1,cb 0 95 11 (.agg [vi a0.Kind,vw a0.Name,vw a0.Other,vi a0.N,vi r1.Kind,vi r1.N,vw r1.Name,po s_Expr r1.Of,po s_Stmt r2,po s_Stmt r3,vz a0.At])),(2,cb 1 95 11 (.agg [vi 0,vw b0,vw b0,vi 0,vi 0,vi 0,vw b0,vn,vn,vn,vz c0]))] 2 [(10,[1]),(12,[1]),(14,[1])] [(9,[1]),(11,[1]),(13,[1])] ?_
 refine De ?_
 refine Wk_done ?_
 refine Qz hT 2 [2] ⟨[(2,bx 2 1)],[(2,cb 1 95 11 (.agg [vi a0.Kind,vw a0.Name,vw a0.Other,vi a0.N,vi r1.Kind,vi r1.N,vw r1.Name,po s_Expr r1.Of,po s_Stmt r2,po s_Stmt r3,vz a0.At])),(1,cb 0 95 11 (.agg [vi a0.Kind,vw a0.Name,vw a0.Other,vi a0.N,vi r1.Kind,vi r1.N,vw r1.Name,po s_Expr r1.Of,po s_Stmt r2,po s_Stmt r3,vz a0.At]))],2⟩ ?_
 refine aW [2] ⟨[(2,bx 2 1)],[(2,cb 1 95 11 (.agg [vi a0.Kind,vw a0.Name,vw a0.Other,vi a0.N,vi r1.Kind,vi r1.N,vw r1.Name,po s_Expr r1.Of,po s_Stmt r2,po s_Stmt r3,vz a0.At])),(1,cb 0 95 11 (.agg [vi a0.Kind,vw a0.Name,vw a0.Other,vi a0.N,vi r1.Kind,vi r1.N,vw r1.Name,po s_Expr r1.Of,po s_Stmt r2,po s_Stmt r3,vz a0.At]))],2⟩ ?_
 refine WA_weak (wL [(2,bx 2 1)] [(2,cb 1 95 11 (eStmt (Stmt.mk a0.Kind a0.Name a0.Other a0.N r1 r2 r3 a0.At))),(1,cb 0 95 11 (.agg [vi a0.Kind,vw a0.Name,vw a0.Other,vi a0.N,vi r1.Kind,vi r1.N,vw r1.Name,po s_Expr r1.Of,po s_Stmt r2,po s_Stmt r3,vz a0.At]))] ⟨VLf.refl _,trivial⟩ ⟨rfl,.inr (.inl ⟨rfl,rfl,CLe.agg ⟨VLf.refl _,VLf.refl _,VLf.refl _,VLf.refl _,VLf.refl _,VLf.refl _,VLf.refl _,VLf.refl _,VLf.refl _,VLf.refl _,VLf.refl _,trivial⟩,trivial⟩),rfl,.inl rfl,trivial⟩) ?_
 obtain rfl:=Option.some.inj h
 exact rR [(2,1000,0)] ⟨[(2,bx 1000 0)],[(1000,cb 0 95 11 (eStmt (Stmt.mk a0.Kind a0.Name a0.Other a0.N r1 r2 r3 a0.At)))],1⟩ ⟨by kernel_rfl,rfl⟩
theorem tree_copyBlock_all (n : Nat) : tree_copyBlock_spec n:=by
 induction n using Nat.strongRecOn with
 | _ n ih=>exact ⟨tree_copyBlock_step n ih,tree_copyStmt_step n ih⟩
theorem tree_copyStmt_ok {n : Nat} {a0 : Stmt} {r : Stmt} (h : tree_copyStmt n a0 = some r) : PT Try.prog 63 [eStmt a0] (eStmt r):=(tree_copyBlock_all n).2 h
theorem Clip_Stmt_ok {n : Nat} {a0 : List Stmt} {r : List Stmt} (h : Clip_Stmt n a0 = some r) : PT Try.prog 64 [po s_Stmt a0] (.ps .fopt (s_Stmt.F r)):=by
 unfold Clip_Stmt at h
 refine PT_bodyA hT Try.func64 rfl (by kernel_rfl) fun bad w=>?_
 refine Qzd hT 1 [0] [] ?_
 refine Qgd hT 2 [0,3,4] [(3,po s_Stmt a0),(4,po s_Stmt a0)] ?_
 refine One' hT rfl (v_len s_Stmt .opt a0) ?_
 refine Sgd hT 1 [3,5,6] [(5,vi (ln a0)),(6,po s_Stmt a0)] ?_
 refine One' hT rfl (v_len s_Stmt .opt a0) ?_
 refine Sgd hT 0 [3,5,7] [(7,vi (ln a0))] ?_
 obtain ⟨l1,hl1,h⟩:=bsome h
 refine One' hT rfl (v_slice s_Stmt .opt a0 0 (ln a0) (some (ln a0)) l1 .fopt hl1 (by intro y hy; cases hy; rfl)) ?_
 refine Sz hT 1 [2] ⟨[(2,.ps .fopt (s_Stmt.F l1))],[],0⟩ ?_
 obtain rfl:=Option.some.inj h
 exact rK [2] [] ⟨[(2,.ps .fopt (s_Stmt.F l1))],[],1⟩ ⟨by kernel_rfl,rfl⟩
theorem tree_List_ok {n : Nat} {a0 : Prog} {r : List Stmt} (h : tree_List n a0 = some r) : PT Try.prog 39 [eProg a0] (.ps .fopt (s_Stmt.F r)):=by
 unfold tree_List at h
 refine PT_bodyA hT Try.func39 rfl (by kernel_rfl) fun bad w=>?_
 refine Qz hT 2 [1] ⟨[(1,bx 1 0)],[(1,cb 0 26 2 (eProg a0))],1⟩ ?_
 refine Qzd hT 1 [1,3] [(3,vn)] ?_
 refine WA_seq ?_
 refine Qgd hT 2 [3,9] [(9,po s_LStmt a0.Threads)] ?_
 refine One' hT rfl (v_len s_LStmt .opt a0.Threads) ?_
 refine Szd hT 1 [3,9,10,11] [(10,vi (ln a0.Threads)),(11,vi 0)] ?_
 refine WA_block ?_
 refine aW [3,9,10,11] ⟨[(3,vn),(9,po s_LStmt a0.Threads),(10,vi (ln a0.Threads)),(11,vi 0)],[(1,cb 0 26 2 (eProg a0))],1⟩ ?_
 refine WA_weak (wO 3 5000 95 11) ?_
 refine lK [3,9,10,11] [(5000,10003,0)] (fun k s=>∃ q,q ≤ k ∧ q ≤ n ∧ ∃ (l1 : List Stmt),∃ (i2 : Int),tree_List_L0 q a0 l1 i2 = some r ∧ s = ⟨[(3,vs 10003 0 s_Stmt l1),(9,po s_LStmt a0.Threads),(10,vi (ln a0.Threads)),(11,vi i2)],[(10003,rb 0 s_Stmt l1)],1⟩) n ⟨n,Nat.le_refl _,Nat.le_refl _,([] : List Stmt),0,h,rfl⟩ (by rintro s ⟨q,hq,_,l1,i2,h,_⟩; obtain rfl:=Nat.le_zero.1 hq; rw [tree_List_L0] at h; cases h) ?_
 clear h
 rintro k1 s ⟨q1,hk1,hn1,l1,i2,h,rfl⟩
 rcases q1 with _ | q1
 ·rw [tree_List_L0] at h; cases h
 rw [tree_List_L0] at h
 refine Qzd hT 1 [3,9,10,11,12] [(12,vb (decide (i2 < (ln a0.Threads))))] ?_
 refine WA_seq ?_
 refine Ci h (fun h=>?_) fun h=>?_
 ·refine WA_skip ?_
  refine WA_seq ?_
  refine WA_block ?_
  refine Qgd hT 0 [3,9,10,11] [] ?_
  obtain ⟨x3,hx3,h⟩:=bsome h
  refine One' hT rfl (v_index s_LStmt .opt a0.Threads .i64 i2 hx3) ?_
  refine Sz hT 2 [3,5,9,10,11] ⟨[(3,vs 10003 0 s_Stmt l1),(5,po s_Stmt x3),(9,po s_LStmt a0.Threads),(10,vi (ln a0.Threads)),(11,vi i2)],[(10003,rb 0 s_Stmt l1)],1⟩ ?_
  refine Rgd hT 2 [9,10,11,15,16] [(15,vs 10003 0 s_Stmt l1),(16,po s_Stmt x3)] ?_
  obtain ⟨r4,hr4,h⟩:=bsome h
  refine Og [(0,rb 0 s_Stmt l1)] [(100,rb 1 s_Stmt r4)] [vs 10003 0 s_Stmt l1,po s_Stmt x3] [vs 0 0 s_Stmt l1,po s_Stmt x3] [(10003,0,0)] [(100,17,1)] [(17,rb 1 s_Stmt r4)] (vs 100 1 s_Stmt r4) (vs 17 1 s_Stmt r4) 2 en62 (tree_listed_o_ok hr4) ?_
  refine Szh hT 1 [3,9,10,11] [(3,vs 17 1 s_Stmt r4)] [(17,rb 1 s_Stmt r4)] 2 ?_
  refine Rgd hT 2 [3,9,10,11] [(11,vi (wr (i2 + 1)))] ?_
  exact oK [3,9,10,11] [(17,10003,0)] ⟨_,by omega,by omega,r4,wr (i2 + 1),h,rfl⟩
 refine WA_exit ?_
 refine WA_seq ?_
 refine Qgd hT 1 [3,19] [(19,vs 10003 0 s_Stmt l1)] ?_
 refine One' hT rfl (v_len_own s_Stmt 10003 0 true (rb 0 s_Stmt l1) l1) ?_
 refine Szd hT 1 [3,19,20,21] [(20,vi (ln l1)),(21,vi 0)] ?_
 refine WA_block ?_
 refine lK [3,19,20,21] [(10003,10003,0)] (fun k s=>∃ q,q ≤ k ∧ q ≤ q1 ∧ ∃ (l5 : List Stmt),∃ (i6 : Int),tree_List_L1 q a0 l1 i2 l5 i6 = some r ∧ s = ⟨[(3,vs 10003 0 s_Stmt l5),(19,vs 10003 0 s_Stmt l5),(20,vi (ln l1)),(21,vi i6)],[(10003,rb 0 s_Stmt l5)],1⟩) q1 ⟨q1,Nat.le_refl _,Nat.le_refl _,l1,0,h,rfl⟩ (by rintro s ⟨q,hq,_,l5,i6,h,_⟩; obtain rfl:=Nat.le_zero.1 hq; rw [tree_List_L1] at h; cases h) ?_
 clear h
 rintro k2 s ⟨q2,hk2,hn2,l5,i6,h,rfl⟩
 rcases q2 with _ | q2
 ·rw [tree_List_L1] at h; cases h
 rw [tree_List_L1] at h
 refine Qzd hT 1 [3,19,20,21,22] [(22,vb (decide (i6 < (ln l1))))] ?_
 refine WA_seq ?_
 refine Ci h (fun h=>?_) fun h=>?_
 ·refine WA_skip ?_
  refine WA_seq ?_
  refine WA_block ?_
  refine Qgd hT 1 [3,19,20,21,23] [(23,vi i6)] ?_
  obtain ⟨x7,hx7,h⟩:=bsome h
  refine One' hT rfl (v_index_own s_Stmt 10003 0 true (rb 0 s_Stmt l5) l5 .i64 i6 hx7) ?_
  refine Sgd hT 0 [3,19,20,21,23,24] [(24,.box 10003 0 i6.toNat 0)] ?_
  refine One' hT rfl (v_load_row s_Stmt 10003 0 (rb 0 s_Stmt l5) l5 i6.toNat 0 x7 (eStmt x7) (idx_some hx7).2) ?_
  refine Sz hT 3 [3,6,7,19,20,21] ⟨[(3,vs 10003 0 s_Stmt l5),(6,vi i6),(7,bx 7 1),(19,vs 10003 0 s_Stmt l5),(20,vi (ln l1)),(21,vi i6)],[(7,cb 1 95 11 (eStmt x7)),(10003,rb 0 s_Stmt l5)],2⟩ ?_
  refine Rgd hT 3 [3,19,20,21,26,27,28] [(26,vs 10003 0 s_Stmt l5),(27,vi i6),(28,eStmt x7)] ?_
  obtain ⟨r8,hr8,h⟩:=bsome h
  refine Pt' en63 (tree_copyStmt_ok hr8) ?_
  refine Sgd hT 0 [3,19,20,21,26,27,29] [(29,eStmt r8)] ?_
  obtain ⟨x9,hx9,h⟩:=bsome h
  refine One' hT rfl (v_index_own s_Stmt 10003 0 true (rb 0 s_Stmt l5) l5 .i64 i6 hx9) ?_
  refine Sgd hT 0 [3,19,20,21,29,30] [(30,.box 10003 0 i6.toNat 0)] ?_
  refine One' hT rfl (v_storeRow s_Stmt 10003 0 (rb 0 s_Stmt l5) l5 i6.toNat 0 x9 r8 (idx_some hx9).2) ?_
  refine oW [3,19,20,21,29] ⟨[(3,vs 10003 0 s_Stmt l5),(19,vs 10003 0 s_Stmt l5),(20,vi (ln l1)),(21,vi i6),(29,eStmt r8)],[(10003,rb 0 s_Stmt (l5.set i6.toNat r8)),(7,cb 1 95 11 (eStmt x7))],2⟩ ?_
  refine WO_weak (wL [(3,vs 10003 0 s_Stmt (l5.set i6.toNat r8)),(19,vs 10003 0 s_Stmt (l5.set i6.toNat r8)),(20,vi (ln l1)),(21,vi i6),(29,eStmt r8)] [(10003,rb 0 s_Stmt (l5.set i6.toNat r8)),(7,cb 1 95 11 (eStmt x7))] ⟨(VLf.slen (by simp [TE.len,lcopy_length,rcopy_length,clr_length])),(VLf.slen (by simp [TE.len,lcopy_length,rcopy_length,clr_length])),VLf.refl _,VLf.refl _,VLf.refl _,trivial⟩ (HLe.refl _)) ?_
  refine Szh hT 0 [3,19,20,21] [] [(10003,rb 0 s_Stmt (l5.set i6.toNat r8)),(7,cb 1 95 11 (eStmt x7))] 2 ?_
  refine Rgd hT 2 [3,19,20,21] [(21,vi (wr (i6 + 1)))] ?_
  exact oK [3,19,20,21] [(10003,10003,0)] ⟨_,by omega,by omega,l5.set i6.toNat r8,wr (i6 + 1),h,rfl⟩
 refine WA_exit ?_
 refine Qgd hT 1 [32] [(32,vs 10003 0 s_Stmt l5)] ?_
 refine WO_weak (wF 10003 0 (rb 0 s_Stmt l5) [(32,po s_Stmt l5)] [] ⟨rfl,.hit true,trivial⟩ trivial) ?_
 obtain ⟨r10,hr10,h⟩:=bsome h
 refine Pt' en64 (Clip_Stmt_ok hr10) ?_
 refine Sz hT 1 [2] ⟨[(2,.ps .fopt (s_Stmt.F r10))],[],1⟩ ?_
 obtain rfl:=Option.some.inj h
 exact rK [2] [] ⟨[(2,.ps .fopt (s_Stmt.F r10))],[],1⟩ ⟨by kernel_rfl,rfl⟩
theorem Clip_string_ok {n : Nat} {a0 : List ByteArray} {r : List ByteArray} (h : Clip_string n a0 = some r) : PT Try.prog 87 [po s_string a0] (.ps .fopt (s_string.F r)):=by
 unfold Clip_string at h
 refine PT_bodyA hT Try.func87 rfl (by kernel_rfl) fun bad w=>?_
 refine Qzd hT 1 [0] [] ?_
 refine Qgd hT 2 [0,3,4] [(3,po s_string a0),(4,po s_string a0)] ?_
 refine One' hT rfl (v_len s_string .opt a0) ?_
 refine Sgd hT 1 [3,5,6] [(5,vi (ln a0)),(6,po s_string a0)] ?_
 refine One' hT rfl (v_len s_string .opt a0) ?_
 refine Sgd hT 0 [3,5,7] [(7,vi (ln a0))] ?_
 obtain ⟨l1,hl1,h⟩:=bsome h
 refine One' hT rfl (v_slice s_string .opt a0 0 (ln a0) (some (ln a0)) l1 .fopt hl1 (by intro y hy; cases hy; rfl)) ?_
 refine Sz hT 1 [2] ⟨[(2,.ps .fopt (s_string.F l1))],[],0⟩ ?_
 obtain rfl:=Option.some.inj h
 exact rK [2] [] ⟨[(2,.ps .fopt (s_string.F l1))],[],1⟩ ⟨by kernel_rfl,rfl⟩
def tree_Names_spec (n : Nat) : Prop:=(∀ {a0 : Expr} {r : List ByteArray},tree_Names n a0 = some r → PT Try.prog 86 [eExpr a0] (.ps .fopt (s_string.F r)))
theorem tree_Names_step (n : Nat) (ih : ∀ m,m < n → tree_Names_spec m) : ∀ {a0 : Expr} {r : List ByteArray},tree_Names n a0 = some r → PT Try.prog 86 [eExpr a0] (.ps .fopt (s_string.F r)):=by
 intro a0 r h
 rcases n with _ | n
 ·rw [tree_Names] at h; cases h
 rw [tree_Names] at h
 refine PT_bodyA hT Try.func86 rfl (by kernel_rfl) fun bad w=>?_
 refine Qz hT 2 [1] ⟨[(1,bx 1 0)],[(1,cb 0 93 4 (eExpr a0))],1⟩ ?_
 refine Qzd hT 1 [1,3] [(3,vn)] ?_
 refine WA_seq ?_
 refine Qzd hT 3 [1,3,8] [(8,vb (a0.Kind == 2))] ?_
 obtain ⟨J2,hJ2,h⟩:=jsome h
 refine WA_join (fun s=>∃ (l1 : List ByteArray),J2 l1 = some r ∧ s = ⟨[(1,bx 1 0),(3,vs 10003 0 s_string l1)],[(1,cb 0 93 4 (eExpr a0)),(10003,rb 0 s_string l1)],1⟩) ?_ ?_
 ·refine Ci h (fun h=>?_) fun h=>?_
  ·refine Rg hT 4 [1,9,12] ⟨[(1,bx 1 0),(9,vn),(12,vs 12 1 s_string [a0.Name])],[(12,⟨1,9,1,false,false,s_string.F [a0.Name]⟩),(1,cb 0 93 4 (eExpr a0))],2⟩ ?_
   refine WO_weak (wO 9 6013 9 1) ?_
   obtain ⟨g3,h⟩:=gsome h
   refine Oa hT s_string 6013 2 true ([] : List ByteArray) [a0.Name] (eO s_string 12 1 true ⟨1,9,1,false,false,s_string.F [a0.Name]⟩ [a0.Name]) g3 ?_
   refine Sg hT 1 [1,3] ⟨[(1,bx 1 0),(3,vs 13 3 s_string (([] : List ByteArray) ++ [a0.Name]))],[(13,rb 3 s_string (([] : List ByteArray) ++ [a0.Name])),(12,⟨1,9,1,false,false,s_string.F [a0.Name]⟩),(1,cb 0 93 4 (eExpr a0))],4⟩ ?_
   exact oK [1,3] [(1,1,0),(13,10003,0)] ⟨([] : List ByteArray) ++ [a0.Name],h,rfl⟩
  refine aW [1,3] ⟨[(1,bx 1 0),(3,vn)],[(1,cb 0 93 4 (eExpr a0))],1⟩ ?_
  refine WA_weak (wO 3 5000 9 1) ?_
  exact sK [1,3] [(1,1,0),(5000,10003,0)] ⟨([] : List ByteArray),h,rfl⟩
 subst hJ2
 rintro s ⟨l1,h,rfl⟩
 refine WA_seq ?_
 refine Qgd hT 2 [3,15] [(15,po s_Expr a0.Of)] ?_
 refine One' hT rfl (v_len s_Expr .opt a0.Of) ?_
 refine Szd hT 1 [3,15,16,17] [(16,vi (ln a0.Of)),(17,vi 0)] ?_
 refine WA_block ?_
 refine lK [3,15,16,17] [(10003,10003,0)] (fun k s=>∃ q,q ≤ k ∧ q ≤ n ∧ ∃ (l4 : List ByteArray),∃ (i5 : Int),tree_Names_L0 q a0 l1 l4 i5 = some r ∧ s = ⟨[(3,vs 10003 0 s_string l4),(15,po s_Expr a0.Of),(16,vi (ln a0.Of)),(17,vi i5)],[(10003,rb 0 s_string l4)],1⟩) n ⟨n,Nat.le_refl _,Nat.le_refl _,l1,0,h,rfl⟩ (by rintro s ⟨q,hq,_,l4,i5,h,_⟩; obtain rfl:=Nat.le_zero.1 hq; rw [tree_Names_L0] at h; cases h) ?_
 clear h
 rintro k1 s ⟨q1,hk1,hn1,l4,i5,h,rfl⟩
 rcases q1 with _ | q1
 ·rw [tree_Names_L0] at h; cases h
 rw [tree_Names_L0] at h
 refine Qzd hT 1 [3,15,16,17,18] [(18,vb (decide (i5 < (ln a0.Of))))] ?_
 refine WA_seq ?_
 refine Ci h (fun h=>?_) fun h=>?_
 ·refine WA_skip ?_
  refine WA_seq ?_
  refine WA_block ?_
  refine Qg hT 0 [3,15,16,17] ⟨[(3,vs 10003 0 s_string l4),(15,po s_Expr a0.Of),(16,vi (ln a0.Of)),(17,vi i5)],[(10003,rb 0 s_string l4)],1⟩ ?_
  obtain ⟨x6,hx6,h⟩:=bsome h
  refine One' hT rfl (v_index s_Expr .opt a0.Of .i64 i5 hx6) ?_
  refine Szh hT 3 [3,5,15,16,17] [(5,bx 5 1)] [(5,cb 1 93 4 (eExpr x6)),(10003,rb 0 s_string l4)] 2 ?_
  refine Rgd hT 2 [15,16,17,21,22] [(21,vs 10003 0 s_string l4),(22,eExpr x6)] ?_
  obtain ⟨r7,hr7,h⟩:=bsome h
  refine Pt' en86 ((ih _ (by omega)) hr7) ?_
  refine Sgd hT 0 [15,16,17,21,23] [(23,.ps .fopt (s_string.F r7))] ?_
  obtain ⟨g8,h⟩:=gsome h
  refine Oa hT s_string 10003 0 true l4 r7 (by kernel_rfl) g8 ?_
  refine Szh hT 1 [3,15,16,17] [(3,vs 24 2 s_string (l4 ++ r7))] [(24,rb 2 s_string (l4 ++ r7)),(5,cb 1 93 4 (eExpr x6))] 3 ?_
  refine Rgd hT 2 [3,15,16,17] [(17,vi (wr (i5 + 1)))] ?_
  exact oK [3,15,16,17] [(24,10003,0)] ⟨_,by omega,by omega,l4 ++ r7,wr (i5 + 1),h,rfl⟩
 refine WA_exit ?_
 refine Qgd hT 1 [26] [(26,vs 10003 0 s_string l4)] ?_
 refine WO_weak (wF 10003 0 (rb 0 s_string l4) [(26,po s_string l4)] [] ⟨rfl,.hit true,trivial⟩ trivial) ?_
 obtain ⟨r9,hr9,h⟩:=bsome h
 refine Pt' en87 (Clip_string_ok hr9) ?_
 refine Sz hT 1 [2] ⟨[(2,.ps .fopt (s_string.F r9))],[],1⟩ ?_
 obtain rfl:=Option.some.inj h
 exact rK [2] [] ⟨[(2,.ps .fopt (s_string.F r9))],[],1⟩ ⟨by kernel_rfl,rfl⟩
theorem tree_Names_all (n : Nat) : tree_Names_spec n:=by
 induction n using Nat.strongRecOn with
 | _ n ih=>exact tree_Names_step n ih
theorem tree_Names_ok {n : Nat} {a0 : Expr} {r : List ByteArray} (h : tree_Names n a0 = some r) : PT Try.prog 86 [eExpr a0] (.ps .fopt (s_string.F r)):=(tree_Names_all n) h
theorem tree_Touches_ok {n : Nat} {a0 : Stmt} {r : List ByteArray} (h : tree_Touches n a0 = some r) : PT Try.prog 66 [eStmt a0] (.ps .fopt (s_string.F r)):=by
 unfold tree_Touches at h
 refine PT_bodyA hT Try.func66 rfl (by kernel_rfl) fun bad w=>?_
 refine Qz hT 2 [1] ⟨[(1,bx 1 0)],[(1,cb 0 95 11 (eStmt a0))],1⟩ ?_
 refine Qzd hT 1 [1,3] [(3,vn)] ?_
 refine WA_seq ?_
 refine Qzd hT 2 [1,3,5] [(5,vi a0.Kind)] ?_
 obtain ⟨J2,hJ2,h⟩:=jsome h
 refine WA_join (fun s=>∃ (l1 : List ByteArray),J2 l1 = some r ∧ s = ⟨[(1,bx 1 0),(3,.ps .fopt (s_string.F l1))],[(1,cb 0 95 11 (eStmt a0))],1⟩) ?_ ?_
 ·refine WA_block ?_
  refine WA_seq ?_
  refine Qzd hT 2 [1,3,5,6] [(6,vb (a0.Kind == 1))] ?_
  obtain ⟨J4,hJ4,h⟩:=jsome h
  refine WA_join (fun s=>∃ (b3 : Bool),J4 b3 = some r ∧ s = ⟨[(1,bx 1 0),(3,vn),(6,vb b3)],[(1,cb 0 95 11 (eStmt a0))],1⟩) ?_ ?_
  ·refine Ci h (fun h=>?_) fun h=>?_
   ·exact sK [1,3,6] [(1,1,0)] ⟨(a0.Kind == 1),h,rfl⟩
   refine Qzd hT 2 [1,3,5,6] [(6,vb (a0.Kind == 4))] ?_
   refine Ci h (fun h=>?_) fun h=>?_
   ·exact sK [1,3,6] [(1,1,0)] ⟨(a0.Kind == 4),h,rfl⟩
   refine Qzd hT 2 [1,3,5,6] [(6,vb (a0.Kind == 6))] ?_
   refine Ci h (fun h=>?_) fun h=>?_
   ·exact sK [1,3,6] [(1,1,0)] ⟨(a0.Kind == 6),h,rfl⟩
   refine Rg hT 2 [1,3,6] ⟨[(1,bx 1 0),(3,vn),(6,vb (a0.Kind == 7))],[(1,cb 0 95 11 (eStmt a0))],1⟩ ?_
   exact oK [1,3,6] [(1,1,0)] ⟨(a0.Kind == 7),h,rfl⟩
  subst hJ4
  rintro s ⟨b3,h,rfl⟩
  skip
  refine Ci h (fun h=>?_) fun h=>?_
  ·refine Rgd hT 2 [1,12] [(12,eExpr a0.E)] ?_
   obtain ⟨r5,hr5,h⟩:=bsome h
   refine Pt' en86 (tree_Names_ok hr5) ?_
   refine Sgd hT 1 [1,3] [(3,.ps .fopt (s_string.F r5))] ?_
   exact oK [1,3] [(1,1,0)] ⟨r5,h,rfl⟩
  refine aW [1,3] ⟨[(1,bx 1 0),(3,vn)],[(1,cb 0 95 11 (eStmt a0))],1⟩ ?_
  refine WA_weak (wL [(1,bx 1 0),(3,.ps .fopt (s_string.F []))] [(1,cb 0 95 11 (eStmt a0))] ⟨VLf.refl _,(VLe.f VLe.nil_fopt rfl),trivial⟩ ⟨rfl,.inl rfl,trivial⟩) ?_
  exact sR [(1,1,0)] ⟨[],h,rfl⟩
 subst hJ2
 rintro s ⟨l1,h,rfl⟩
 refine WA_seq ?_
 refine Qzd hT 2 [1,3,15] [(15,vi a0.Kind)] ?_
 obtain ⟨J7,hJ7,h⟩:=jsome h
 refine WA_join (fun s=>∃ (l6 : List ByteArray),J7 l6 = some r ∧ s = ⟨[(3,po s_string l6)],[],1⟩) ?_ ?_
 ·refine WA_block ?_
  refine Qzd hT 2 [1,3,15,16] [(16,vb (a0.Kind == 1))] ?_
  refine Ci h (fun h=>?_) fun h=>?_
  ·refine Rg hT 4 [18,21] ⟨[(18,.ps .fopt (s_string.F l1)),(21,vs 21 1 s_string [a0.Name])],[(21,⟨1,9,1,false,false,s_string.F [a0.Name]⟩),(1,cb 0 95 11 (eStmt a0))],2⟩ ?_
   obtain ⟨g8,h⟩:=gsome h
   refine One' hT rfl (ev_appendF s_string .fopt l1 [a0.Name] (by decide) (by kernel_rfl) (eO s_string 21 1 true ⟨1,9,1,false,false,s_string.F [a0.Name]⟩ [a0.Name]) (by simp) g8) ?_
   refine Sg hT 1 [3] ⟨[(3,vs 22 2 s_string (l1 ++ [a0.Name]))],[(22,⟨2,9,1,false,false,s_string.F (l1 ++ [a0.Name])⟩),(21,⟨1,9,1,false,false,s_string.F [a0.Name]⟩),(1,cb 0 95 11 (eStmt a0))],3⟩ ?_
   refine oW [3] ⟨[(3,vs 22 2 s_string (l1 ++ [a0.Name]))],[(22,⟨2,9,1,false,false,s_string.F (l1 ++ [a0.Name])⟩),(21,⟨1,9,1,false,false,s_string.F [a0.Name]⟩),(1,cb 0 95 11 (eStmt a0))],3⟩ ?_
   refine WO_weak (wF 22 2 ⟨2,9,1,false,false,s_string.F (l1 ++ [a0.Name])⟩ [(3,po s_string (l1 ++ [a0.Name]))] [(21,⟨1,9,1,false,false,s_string.F [a0.Name]⟩),(1,cb 0 95 11 (eStmt a0))] ⟨rfl,.hit true,trivial⟩ ⟨rfl,.inl rfl,rfl,.inl rfl,trivial⟩) ?_
   exact oR [] ⟨l1 ++ [a0.Name],h,rfl⟩
  refine Qzd hT 2 [1,3,23] [(23,vb (a0.Kind == 5))] ?_
  refine Ci h (fun h=>?_) fun h=>?_
  ·refine Rg hT 4 [25,28] ⟨[(25,.ps .fopt (s_string.F l1)),(28,vs 28 1 s_string [a0.Other])],[(28,⟨1,9,1,false,false,s_string.F [a0.Other]⟩),(1,cb 0 95 11 (eStmt a0))],2⟩ ?_
   obtain ⟨g9,h⟩:=gsome h
   refine One' hT rfl (ev_appendF s_string .fopt l1 [a0.Other] (by decide) (by kernel_rfl) (eO s_string 28 1 true ⟨1,9,1,false,false,s_string.F [a0.Other]⟩ [a0.Other]) (by simp) g9) ?_
   refine Sg hT 1 [3] ⟨[(3,vs 29 2 s_string (l1 ++ [a0.Other]))],[(29,⟨2,9,1,false,false,s_string.F (l1 ++ [a0.Other])⟩),(28,⟨1,9,1,false,false,s_string.F [a0.Other]⟩),(1,cb 0 95 11 (eStmt a0))],3⟩ ?_
   refine oW [3] ⟨[(3,vs 29 2 s_string (l1 ++ [a0.Other]))],[(29,⟨2,9,1,false,false,s_string.F (l1 ++ [a0.Other])⟩),(28,⟨1,9,1,false,false,s_string.F [a0.Other]⟩),(1,cb 0 95 11 (eStmt a0))],3⟩ ?_
   refine WO_weak (wF 29 2 ⟨2,9,1,false,false,s_string.F (l1 ++ [a0.Other])⟩ [(3,po s_string (l1 ++ [a0.Other]))] [(28,⟨1,9,1,false,false,s_string.F [a0.Other]⟩),(1,cb 0 95 11 (eStmt a0))] ⟨rfl,.hit true,trivial⟩ ⟨rfl,.inl rfl,rfl,.inl rfl,trivial⟩) ?_
   exact oR [] ⟨l1 ++ [a0.Other],h,rfl⟩
  refine aW [3] ⟨[(3,.ps .fopt (s_string.F l1))],[(1,cb 0 95 11 (eStmt a0))],1⟩ ?_
  refine WA_weak (wL [(3,po s_string l1)] [(1,cb 0 95 11 (eStmt a0))] ⟨(VLe.f VLe.fopt_opt rfl),trivial⟩ ⟨rfl,.inl rfl,trivial⟩) ?_
  exact sR [] ⟨l1,h,rfl⟩
 subst hJ7
 rintro s ⟨l6,h,rfl⟩
 refine Qg hT 1 [30] ⟨[(30,po s_string l6)],[],1⟩ ?_
 obtain ⟨r10,hr10,h⟩:=bsome h
 refine Pt' en87 (Clip_string_ok hr10) ?_
 refine Sz hT 1 [2] ⟨[(2,.ps .fopt (s_string.F r10))],[],1⟩ ?_
 obtain rfl:=Option.some.inj h
 exact rK [2] [] ⟨[(2,.ps .fopt (s_string.F r10))],[],1⟩ ⟨by kernel_rfl,rfl⟩
theorem Index_string_ok {n : Nat} {a0 : List ByteArray} {a1 : ByteArray} {r : Int} (h : Index_string n a0 a1 = some r) : PT Try.prog 88 [po s_string a0,vw a1] (vi r):=by
 unfold Index_string at h
 refine PT_bodyA hT Try.func88 rfl (by kernel_rfl) fun bad w=>?_
 refine Qzd hT 1 [0,1] [] ?_
 refine WA_seq ?_
 refine Qgd hT 1 [0,1,6] [(6,po s_string a0)] ?_
 refine One' hT rfl (v_len s_string .opt a0) ?_
 refine Szd hT 1 [0,1,7,8] [(7,vi (ln a0)),(8,vi 0)] ?_
 refine WA_block ?_
 refine lK [0,1,7,8] [] (fun k s=>∃ q,q ≤ k ∧ q ≤ n ∧ ∃ (i1 : Int),Index_string_L0 q a0 a1 i1 = some r ∧ s = ⟨[(0,po s_string a0),(1,vw a1),(7,vi (ln a0)),(8,vi i1)],[],1⟩) n ⟨n,Nat.le_refl _,Nat.le_refl _,0,h,rfl⟩ (by rintro s ⟨q,hq,_,i1,h,_⟩; obtain rfl:=Nat.le_zero.1 hq; rw [Index_string_L0] at h; cases h) ?_
 clear h
 rintro k1 s ⟨q1,hk1,hn1,i1,h,rfl⟩
 rcases q1 with _ | q1
 ·rw [Index_string_L0] at h; cases h
 rw [Index_string_L0] at h
 refine Qzd hT 1 [0,1,7,8,9] [(9,vb (decide (i1 < (ln a0))))] ?_
 refine WA_seq ?_
 refine Ci h (fun h=>?_) fun h=>?_
 ·refine WA_skip ?_
  refine WA_seq ?_
  refine WA_block ?_
  refine Qzd hT 2 [0,1,5,7,8] [(5,vi i1)] ?_
  refine Qgd hT 3 [0,1,5,7,8,11,12,13] [(11,vw a1),(12,po s_string a0),(13,vi i1)] ?_
  obtain ⟨x2,hx2,h⟩:=bsome h
  refine One' hT rfl (v_index s_string .opt a0 .i64 i1 hx2) ?_
  refine Szd hT 2 [0,1,5,7,8,16] [(16,vb (bytesEq a1 x2))] ?_
  refine Ci h (fun h=>?_) fun h=>?_
  ·refine Qz hT 2 [4] ⟨[(4,vi i1)],[],1⟩ ?_
   obtain rfl:=Option.some.inj h
   exact rK [4] [] ⟨[(4,vi i1)],[],1⟩ ⟨by kernel_rfl,rfl⟩
  refine WA_skip ?_
  refine Rgd hT 2 [0,1,7,8] [(8,vi (wr (i1 + 1)))] ?_
  exact oK [0,1,7,8] [] ⟨_,by omega,by omega,wr (i1 + 1),h,rfl⟩
 refine WA_exit ?_
 refine Qz hT 1 [4] ⟨[(4,vi (-1))],[],1⟩ ?_
 obtain rfl:=Option.some.inj h
 exact rK [4] [] ⟨[(4,vi (-1))],[],1⟩ ⟨by kernel_rfl,rfl⟩
theorem Contains_string_ok {n : Nat} {a0 : List ByteArray} {a1 : ByteArray} {r : Bool} (h : Contains_string n a0 a1 = some r) : PT Try.prog 68 [po s_string a0,vw a1] (vb r):=by
 unfold Contains_string at h
 refine PT_bodyA hT Try.func68 rfl (by kernel_rfl) fun bad w=>?_
 refine Qzd hT 1 [0,1] [] ?_
 refine Qg hT 2 [5,6] ⟨[(5,po s_string a0),(6,vw a1)],[],0⟩ ?_
 obtain ⟨r1,hr1,h⟩:=bsome h
 refine Pt' en88 (Index_string_ok hr1) ?_
 refine Sz hT 2 [4] ⟨[(4,vb (decide (r1 ≥ 0)))],[],0⟩ ?_
 obtain rfl:=Option.some.inj h
 exact rK [4] [] ⟨[(4,vb (decide (r1 ≥ 0)))],[],1⟩ ⟨by kernel_rfl,rfl⟩
theorem cost_touches_1_ok {n : Nat} {a0 : ByteArray} {a1 : List ByteArray} {r : Bool} (h : cost_touches_1 n a0 a1 = some r) : PT Try.prog 67 [vw a0,.ref (el_string a1) 0] (vb r):=by
 unfold cost_touches_1 at h
 refine PT_bodyA hT Try.func67 rfl (by kernel_rfl) fun bad w=>?_
 refine Qzd hT 1 [0,1] [] ?_
 refine Qg hT 2 [4,5] ⟨[(4,po s_string a1),(5,vw a0)],[],0⟩ ?_
 obtain ⟨r1,hr1,h⟩:=bsome h
 refine Pt' en68 (Contains_string_ok hr1) ?_
 refine Sz hT 1 [3] ⟨[(3,vb r1)],[],0⟩ ?_
 obtain rfl:=Option.some.inj h
 exact rK [3] [] ⟨[(3,vb r1)],[],1⟩ ⟨by kernel_rfl,rfl⟩
theorem IndexFunc_string_fcost_touches_1_ok {n : Nat} {a0 : List ByteArray} {a1c0 : List ByteArray} {r : Int} (h : IndexFunc_string_fcost_touches_1 n a0 a1c0 = some r) : PT Try.prog 85 [po s_string a0,.fn 67 [] [.ref (el_string a1c0) 0]] (vi r):=by
 unfold IndexFunc_string_fcost_touches_1 at h
 refine PT_bodyA hT Try.func85 rfl (by kernel_rfl) fun bad w=>?_
 refine Qzd hT 1 [0,1] [] ?_
 refine WA_seq ?_
 refine Qgd hT 1 [0,1,6] [(6,po s_string a0)] ?_
 refine One' hT rfl (v_len s_string .opt a0) ?_
 refine Szd hT 1 [0,1,7,8] [(7,vi (ln a0)),(8,vi 0)] ?_
 refine WA_block ?_
 refine lK [0,1,7,8] [] (fun k s=>∃ q,q ≤ k ∧ q ≤ n ∧ ∃ (i1 : Int),IndexFunc_string_fcost_touches_1_L0 q a0 a1c0 i1 = some r ∧ s = ⟨[(0,po s_string a0),(1,.fn 67 [] [.ref (el_string a1c0) 0]),(7,vi (ln a0)),(8,vi i1)],[],1⟩) n ⟨n,Nat.le_refl _,Nat.le_refl _,0,h,rfl⟩ (by rintro s ⟨q,hq,_,i1,h,_⟩; obtain rfl:=Nat.le_zero.1 hq; rw [IndexFunc_string_fcost_touches_1_L0] at h; cases h) ?_
 clear h
 rintro k1 s ⟨q1,hk1,hn1,i1,h,rfl⟩
 rcases q1 with _ | q1
 ·rw [IndexFunc_string_fcost_touches_1_L0] at h; cases h
 rw [IndexFunc_string_fcost_touches_1_L0] at h
 refine Qzd hT 1 [0,1,7,8,9] [(9,vb (decide (i1 < (ln a0))))] ?_
 refine WA_seq ?_
 refine Ci h (fun h=>?_) fun h=>?_
 ·refine WA_skip ?_
  refine WA_seq ?_
  refine WA_block ?_
  refine Qzd hT 2 [0,1,5,7,8] [(5,vi i1)] ?_
  refine Qgd hT 3 [0,1,5,7,8,11,12,13] [(11,.fn 67 [] [.ref (el_string a1c0) 0]),(12,po s_string a0),(13,vi i1)] ?_
  obtain ⟨x2,hx2,h⟩:=bsome h
  refine One' hT rfl (v_index s_string .opt a0 .i64 i1 hx2) ?_
  refine Sgd hT 1 [0,1,5,7,8,11,15] [(15,vw x2)] ?_
  obtain ⟨r3,hr3,h⟩:=bsome h
  refine Pt' en67 (cost_touches_1_ok hr3) ?_
  refine Szd hT 0 [0,1,5,7,8,16] [(16,vb r3)] ?_
  refine Ci h (fun h=>?_) fun h=>?_
  ·refine Qz hT 2 [4] ⟨[(4,vi i1)],[],1⟩ ?_
   obtain rfl:=Option.some.inj h
   exact rK [4] [] ⟨[(4,vi i1)],[],1⟩ ⟨by kernel_rfl,rfl⟩
  refine WA_skip ?_
  refine Rgd hT 2 [0,1,7,8] [(8,vi (wr (i1 + 1)))] ?_
  exact oK [0,1,7,8] [] ⟨_,by omega,by omega,wr (i1 + 1),h,rfl⟩
 refine WA_exit ?_
 refine Qz hT 1 [4] ⟨[(4,vi (-1))],[],1⟩ ?_
 obtain rfl:=Option.some.inj h
 exact rK [4] [] ⟨[(4,vi (-1))],[],1⟩ ⟨by kernel_rfl,rfl⟩
theorem ContainsFunc_string_fcost_touches_1_ok {n : Nat} {a0 : List ByteArray} {a1c0 : List ByteArray} {r : Bool} (h : ContainsFunc_string_fcost_touches_1 n a0 a1c0 = some r) : PT Try.prog 65 [po s_string a0,.fn 67 [] [.ref (el_string a1c0) 0]] (vb r):=by
 unfold ContainsFunc_string_fcost_touches_1 at h
 refine PT_bodyA hT Try.func65 rfl (by kernel_rfl) fun bad w=>?_
 refine Qzd hT 1 [0,1] [] ?_
 refine Qg hT 2 [5,6] ⟨[(5,po s_string a0),(6,.fn 67 [] [.ref (el_string a1c0) 0])],[],0⟩ ?_
 obtain ⟨r1,hr1,h⟩:=bsome h
 refine Pt' en85 (IndexFunc_string_fcost_touches_1_ok hr1) ?_
 refine Sz hT 2 [4] ⟨[(4,vb (decide (r1 ≥ 0)))],[],0⟩ ?_
 obtain rfl:=Option.some.inj h
 exact rK [4] [] ⟨[(4,vb (decide (r1 ≥ 0)))],[],1⟩ ⟨by kernel_rfl,rfl⟩
theorem cost_touches_ok {n : Nat} {a0 : Stmt} {a1 : List ByteArray} {r : Bool} (h : cost_touches n a0 a1 = some r) : PT Try.prog 40 [eStmt a0,po s_string a1] (vb r):=by
 unfold cost_touches at h
 refine PT_bodyA hT Try.func40 rfl (by kernel_rfl) fun bad w=>?_
 refine Qz hT 3 [2,3] ⟨[(2,bx 2 0),(3,bx 3 1)],[(3,cb 1 49 1 (po s_string a1)),(2,cb 0 95 11 (eStmt a0))],2⟩ ?_
 refine Qgd hT 1 [3,5] [(5,eStmt a0)] ?_
 obtain ⟨r1,hr1,h⟩:=bsome h
 refine Pt' en66 (tree_Touches_ok hr1) ?_
 refine Sgd hT 1 [6,7] [(6,.ps .fopt (s_string.F r1)),(7,.fn 67 [] [bx 3 1])] ?_
 obtain ⟨r2,hr2,h⟩:=bsome h
 refine Ob [3] [.ps .fopt (s_string.F r1),.fn 67 [] [bx 3 1]] [.ps .fopt (s_string.F r1),.fn 67 [] [.ref (el_string a1) 0]] (vb r2) en65 (PT_args ((ContainsFunc_string_fcost_touches_1_ok hr2)) ⟨VLe.fopt_opt,VLe.refl _,trivial⟩) ?_
 refine Szd hT 1 [4] [(4,vb r2)] ?_
 obtain rfl:=Option.some.inj h
 exact rK [4] [] ⟨[(4,vb r2)],[],1⟩ ⟨by kernel_rfl,rfl⟩
theorem cost_size_ok {n : Nat} {a0 : Stmt} {r : Int} (h : cost_size n a0 = some r) : PT Try.prog 41 [eStmt a0] (vi r):=by
 unfold cost_size at h
 refine PT_bodyA hT Try.func41 rfl (by kernel_rfl) fun bad w=>?_
 refine Qz hT 2 [1] ⟨[(1,bx 1 0)],[(1,cb 0 95 11 (eStmt a0))],1⟩ ?_
 refine Qgd hT 1 [3] [(3,eStmt a0)] ?_
 refine One' hT rfl (ev_bslice s_Stmt 4 [a0] (by kernel_rfl)) ?_
 refine Sg hT 0 [4] ⟨[(4,vs 4 1 s_Stmt [a0])],[(4,⟨1,95,11,false,false,s_Stmt.F [a0]⟩),(1,cb 0 95 11 (eStmt a0))],2⟩ ?_
 refine WO_weak (wF 4 1 ⟨1,95,11,false,false,s_Stmt.F [a0]⟩ [(4,po s_Stmt [a0])] [(1,cb 0 95 11 (eStmt a0))] ⟨rfl,.hit true,trivial⟩ ⟨rfl,.inl rfl,trivial⟩) ?_
 refine Sg hT 1 [5] ⟨[(5,vs 5 2 s_LStmt [[a0]])],[(5,⟨2,75,1,false,false,s_LStmt.F [[a0]]⟩),(1,cb 0 95 11 (eStmt a0))],3⟩ ?_
 refine WO_weak (wF 5 2 ⟨2,75,1,false,false,s_LStmt.F [[a0]]⟩ [(5,po s_LStmt [[a0]])] [(1,cb 0 95 11 (eStmt a0))] ⟨rfl,.hit true,trivial⟩ ⟨rfl,.inl rfl,trivial⟩) ?_
 refine Sg hT 1 [6] ⟨[(6,.agg [vn,po s_LStmt [[a0]]])],[(1,cb 0 95 11 (eStmt a0))],3⟩ ?_
 obtain ⟨r1,hr1,h⟩:=bsome h
 refine Pt' (vs:=[.agg [vn,po s_LStmt [[a0]]]]) en39 (PT_args ((tree_List_ok hr1)) ⟨VLe.agg ⟨VLe.nil_opt,VLe.refl _,trivial⟩,trivial⟩) ?_
 refine Sgd hT 0 [7] [(7,.ps .fopt (s_Stmt.F r1))] ?_
 refine One' hT rfl (v_len s_Stmt .fopt r1) ?_
 refine Szd hT 1 [2] [(2,vi (ln r1))] ?_
 obtain rfl:=Option.some.inj h
 exact rK [2] [] ⟨[(2,vi (ln r1))],[],1⟩ ⟨by kernel_rfl,rfl⟩
theorem Clip_int_ok {n : Nat} {a0 : List Int} {r : List Int} (h : Clip_int n a0 = some r) : PT Try.prog 22 [po s_int a0] (.ps .fopt (s_int.F r)):=by
 unfold Clip_int at h
 refine PT_bodyA hT Try.func22 rfl (by kernel_rfl) fun bad w=>?_
 refine Qzd hT 1 [0] [] ?_
 refine Qgd hT 2 [0,3,4] [(3,po s_int a0),(4,po s_int a0)] ?_
 refine One' hT rfl (v_len s_int .opt a0) ?_
 refine Sgd hT 1 [3,5,6] [(5,vi (ln a0)),(6,po s_int a0)] ?_
 refine One' hT rfl (v_len s_int .opt a0) ?_
 refine Sgd hT 0 [3,5,7] [(7,vi (ln a0))] ?_
 obtain ⟨l1,hl1,h⟩:=bsome h
 refine One' hT rfl (v_slice s_int .opt a0 0 (ln a0) (some (ln a0)) l1 .fopt hl1 (by intro y hy; cases hy; rfl)) ?_
 refine Sz hT 1 [2] ⟨[(2,.ps .fopt (s_int.F l1))],[],0⟩ ?_
 obtain rfl:=Option.some.inj h
 exact rK [2] [] ⟨[(2,.ps .fopt (s_int.F l1))],[],1⟩ ⟨by kernel_rfl,rfl⟩
theorem cost_Wrapped_ok {n : Nat} {a0 : Prog} {a1 : List ByteArray} {r : List Int} (h : cost_Wrapped n a0 a1 = some r) : PT Try.prog 15 [eProg a0,po s_string a1] (.ps .fopt (s_int.F r)):=by
 unfold cost_Wrapped at h
 refine PT_bodyA hT Try.func15 rfl (by kernel_rfl) fun bad w=>?_
 refine Qzh hT 2 [1,2] [(2,bx 2 0)] [(2,cb 0 26 2 (eProg a0))] 1 ?_
 refine Qzd hT 1 [1,2,5] [(5,vn)] ?_
 refine Qgd hT 1 [1,5,8] [(8,eProg a0)] ?_
 obtain ⟨r1,hr1,h⟩:=bsome h
 refine Pt' en39 (tree_List_ok hr1) ?_
 refine Szd hT 1 [1,5,6] [(6,.ps .fopt (s_Stmt.F r1))] ?_
 refine WA_seq ?_
 refine Qzd hT 1 [1,5,6,7] [(7,vi 0)] ?_
 refine WA_block ?_
 refine aW [1,5,6,7] ⟨[(1,po s_string a1),(5,vn),(6,.ps .fopt (s_Stmt.F r1)),(7,vi 0)],[(2,cb 0 26 2 (eProg a0))],1⟩ ?_
 refine WA_weak (wO 5 5000 3 1) ?_
 refine lK [1,5,6,7] [(5000,10005,0)] (fun k s=>∃ q,q ≤ k ∧ q ≤ n ∧ ∃ (l2 : List Int),∃ (i3 : Int),cost_Wrapped_L0 q a0 a1 r1 l2 i3 = some r ∧ s = ⟨[(1,po s_string a1),(5,vs 10005 0 s_int l2),(6,.ps .fopt (s_Stmt.F r1)),(7,vi i3)],[(10005,rb 0 s_int l2)],1⟩) n ⟨n,Nat.le_refl _,Nat.le_refl _,([] : List Int),0,h,rfl⟩ (by rintro s ⟨q,hq,_,l2,i3,h,_⟩; obtain rfl:=Nat.le_zero.1 hq; rw [cost_Wrapped_L0] at h; cases h) ?_
 clear h
 rintro k1 s ⟨q1,hk1,hn1,l2,i3,h,rfl⟩
 rcases q1 with _ | q1
 ·rw [cost_Wrapped_L0] at h; cases h
 rw [cost_Wrapped_L0] at h
 refine WA_seq ?_
 refine Qgd hT 2 [1,5,6,7,10,11] [(10,vi i3),(11,.ps .fopt (s_Stmt.F r1))] ?_
 refine One' hT rfl (v_len s_Stmt .fopt r1) ?_
 refine Szd hT 1 [1,5,6,7,13] [(13,vb (decide (i3 < (ln r1))))] ?_
 refine Ci h (fun h=>?_) fun h=>?_
 ·refine WA_skip ?_
  refine WA_block ?_
  refine Qgd hT 2 [1,5,6,7,14,15] [(14,.ps .fopt (s_Stmt.F r1)),(15,vi i3)] ?_
  obtain ⟨x4,hx4,h⟩:=bsome h
  refine One' hT rfl (v_index s_Stmt .fopt r1 .i64 i3 hx4) ?_
  refine Sgd hT 2 [1,5,6,7,17,18] [(17,eStmt x4),(18,po s_string a1)] ?_
  obtain ⟨r5,hr5,h⟩:=bsome h
  refine Pt' en40 (cost_touches_ok hr5) ?_
  refine Szd hT 0 [1,5,6,7,19] [(19,vb r5)] ?_
  refine Ci h (fun h=>?_) fun h=>?_
  ·refine Qgh hT 3 [1,6,7,20,22] [(20,vs 10005 0 s_int l2),(22,vs 22 1 s_int [i3])] [(22,⟨1,3,1,false,false,s_int.F [i3]⟩),(10005,rb 0 s_int l2)] 2 ?_
   obtain ⟨g6,h⟩:=gsome h
   refine Oa hT s_int 10005 0 true l2 [i3] (eO s_int 22 1 true ⟨1,3,1,false,false,s_int.F [i3]⟩ [i3]) g6 ?_
   refine Szh hT 1 [1,5,6,7] [(5,vs 23 2 s_int (l2 ++ [i3]))] [(23,rb 2 s_int (l2 ++ [i3])),(22,⟨1,3,1,false,false,s_int.F [i3]⟩)] 3 ?_
   refine Rgd hT 3 [1,5,6,24,25,26] [(24,vi i3),(25,.ps .fopt (s_Stmt.F r1)),(26,vi i3)] ?_
   obtain ⟨x7,hx7,h⟩:=bsome h
   refine One' hT rfl (v_index s_Stmt .fopt r1 .i64 i3 hx7) ?_
   refine Sg hT 1 [1,5,6,24,28] ⟨[(1,po s_string a1),(5,vs 23 2 s_int (l2 ++ [i3])),(6,.ps .fopt (s_Stmt.F r1)),(24,vi i3),(28,eStmt x7)],[(23,rb 2 s_int (l2 ++ [i3])),(22,⟨1,3,1,false,false,s_int.F [i3]⟩)],3⟩ ?_
   obtain ⟨r8,hr8,h⟩:=bsome h
   refine Pt' en41 (cost_size_ok hr8) ?_
   refine Sgd hT 2 [1,5,6,7] [(7,vi (wr (i3 + r8)))] ?_
   exact oK [1,5,6,7] [(23,10005,0)] ⟨_,by omega,by omega,l2 ++ [i3],wr (i3 + r8),h,rfl⟩
  refine Rgd hT 3 [1,5,6,7] [(7,vi (wr (i3 + 1)))] ?_
  exact oK [1,5,6,7] [(10005,10005,0)] ⟨_,by omega,by omega,l2,wr (i3 + 1),h,rfl⟩
 refine WA_exit ?_
 refine Qgd hT 1 [33] [(33,vs 10005 0 s_int l2)] ?_
 refine WO_weak (wF 10005 0 (rb 0 s_int l2) [(33,po s_int l2)] [] ⟨rfl,.hit true,trivial⟩ trivial) ?_
 obtain ⟨r9,hr9,h⟩:=bsome h
 refine Pt' en22 (Clip_int_ok hr9) ?_
 refine Sz hT 1 [4] ⟨[(4,.ps .fopt (s_int.F r9))],[],1⟩ ?_
 obtain rfl:=Option.some.inj h
 exact rK [4] [] ⟨[(4,.ps .fopt (s_int.F r9))],[],1⟩ ⟨by kernel_rfl,rfl⟩
theorem rank_ends_ok {n : Nat} {a0 : Prog} {r : List Int} (h : rank_ends n a0 = some r) : GO Try.prog 16 [] [eProg a0] (vs 100 1 s_int r) [(100,rb 1 s_int r)]:=by
 unfold rank_ends at h
 refine GO_bodyA hT Try.func16 rfl [] (by kernel_rfl) fun bad w m=>?_
 refine Qz hT 2 [1] ⟨[(1,bx 1 1)],[(1,cb 1 26 2 (eProg a0))],2⟩ ?_
 refine Qzd hT 1 [1,3] [(3,vn)] ?_
 refine WA_seq ?_
 refine Qgd hT 1 [3,6] [(6,eProg a0)] ?_
 obtain ⟨r1,hr1,h⟩:=bsome h
 refine Pt' en39 (tree_List_ok hr1) ?_
 refine Sgd hT 0 [3,7] [(7,.ps .fopt (s_Stmt.F r1))] ?_
 refine One' hT rfl (v_len s_Stmt .fopt r1) ?_
 refine Szd hT 1 [3,7,8,9] [(8,vi (ln r1)),(9,vi 0)] ?_
 refine WA_block ?_
 refine aW [3,7,8,9] ⟨[(3,vn),(7,.ps .fopt (s_Stmt.F r1)),(8,vi (ln r1)),(9,vi 0)],[(1,cb 1 26 2 (eProg a0))],2⟩ ?_
 refine WA_weak (wO 3 5000 3 1) ?_
 refine lK [3,7,8,9] [(5000,10003,1)] (fun k s=>∃ q,q ≤ k ∧ q ≤ n ∧ ∃ (l2 : List Int),∃ (i3 : Int),rank_ends_L0 q a0 r1 l2 i3 = some r ∧ s = ⟨[(3,vs 10003 1 s_int l2),(7,.ps .fopt (s_Stmt.F r1)),(8,vi (ln r1)),(9,vi i3)],[(10003,rb 1 s_int l2)],2⟩) n ⟨n,Nat.le_refl _,Nat.le_refl _,([] : List Int),0,h,rfl⟩ (by rintro s ⟨q,hq,_,l2,i3,h,_⟩; obtain rfl:=Nat.le_zero.1 hq; rw [rank_ends_L0] at h; cases h) ?_
 clear h
 rintro k1 s ⟨q1,hk1,hn1,l2,i3,h,rfl⟩
 rcases q1 with _ | q1
 ·rw [rank_ends_L0] at h; cases h
 rw [rank_ends_L0] at h
 refine Qz hT 1 [3,7,8,9,10] ⟨[(3,vs 10003 1 s_int l2),(7,.ps .fopt (s_Stmt.F r1)),(8,vi (ln r1)),(9,vi i3),(10,vb (decide (i3 < (ln r1))))],[(10003,rb 1 s_int l2)],2⟩ ?_
 refine WA_seq ?_
 refine Ci h (fun h=>?_) fun h=>?_
 ·refine WA_skip ?_
  refine WA_seq ?_
  refine WA_block ?_
  refine Qgd hT 1 [3,7,8,9,11] [(11,vi i3)] ?_
  obtain ⟨x4,hx4,h⟩:=bsome h
  refine One' hT rfl (v_index s_Stmt .fopt r1 .i64 i3 hx4) ?_
  refine Szh hT 4 [3,4,5,7,8,9] [(4,vi i3),(5,bx 5 2)] [(5,cb 2 95 11 (eStmt x4)),(10003,rb 1 s_int l2)] 3 ?_
  refine Rgd hT 3 [7,8,9,14,15,16] [(14,vs 10003 1 s_int l2),(15,vi i3),(16,eStmt x4)] ?_
  refine One' hT rfl (ev_bslice s_Stmt 17 [x4] (by kernel_rfl)) ?_
  refine Sgh hT 0 [7,8,9,14,15,17] [(17,vs 17 3 s_Stmt [x4])] [(17,⟨3,95,11,false,false,s_Stmt.F [x4]⟩),(5,cb 2 95 11 (eStmt x4)),(10003,rb 1 s_int l2)] 4 ?_
  refine WO_weak (wF 17 3 ⟨3,95,11,false,false,s_Stmt.F [x4]⟩ [(7,.ps .fopt (s_Stmt.F r1)),(8,vi (ln r1)),(9,vi i3),(14,vs 10003 1 s_int l2),(15,vi i3),(17,po s_Stmt [x4])] [(5,cb 2 95 11 (eStmt x4)),(10003,rb 1 s_int l2)] ⟨rfl,.keep _,rfl,.keep _,rfl,.keep _,rfl,.keep _,rfl,.keep _,rfl,.hit true,trivial⟩ ⟨rfl,.inl rfl,rfl,.inl rfl,trivial⟩) ?_
  refine Sgh hT 1 [7,8,9,14,15,18] [(18,vs 18 4 s_LStmt [[x4]])] [(18,⟨4,75,1,false,false,s_LStmt.F [[x4]]⟩),(5,cb 2 95 11 (eStmt x4)),(10003,rb 1 s_int l2)] 5 ?_
  refine WO_weak (wF 18 4 ⟨4,75,1,false,false,s_LStmt.F [[x4]]⟩ [(7,.ps .fopt (s_Stmt.F r1)),(8,vi (ln r1)),(9,vi i3),(14,vs 10003 1 s_int l2),(15,vi i3),(18,po s_LStmt [[x4]])] [(5,cb 2 95 11 (eStmt x4)),(10003,rb 1 s_int l2)] ⟨rfl,.keep _,rfl,.keep _,rfl,.keep _,rfl,.keep _,rfl,.keep _,rfl,.hit true,trivial⟩ ⟨rfl,.inl rfl,rfl,.inl rfl,trivial⟩) ?_
  refine Sgh hT 1 [7,8,9,14,15,19] [(19,.agg [vn,po s_LStmt [[x4]]])] [(5,cb 2 95 11 (eStmt x4)),(10003,rb 1 s_int l2)] 5 ?_
  obtain ⟨r5,hr5,h⟩:=bsome h
  refine Pt' (vs:=[.agg [vn,po s_LStmt [[x4]]]]) en39 (PT_args ((tree_List_ok hr5)) ⟨VLe.agg ⟨VLe.nil_opt,VLe.refl _,trivial⟩,trivial⟩) ?_
  refine Sgd hT 0 [7,8,9,14,15,20] [(20,.ps .fopt (s_Stmt.F r5))] ?_
  refine One' hT rfl (v_len s_Stmt .fopt r5) ?_
  refine Sgh hT 2 [7,8,9,14,23] [(23,vs 23 5 s_int [wr (i3 + (ln r5))])] [(23,⟨5,3,1,false,false,s_int.F [wr (i3 + (ln r5))]⟩),(5,cb 2 95 11 (eStmt x4)),(10003,rb 1 s_int l2)] 6 ?_
  obtain ⟨g6,h⟩:=gsome h
  refine Oa hT s_int 10003 1 true l2 [wr (i3 + (ln r5))] (eO s_int 23 5 true ⟨5,3,1,false,false,s_int.F [wr (i3 + (ln r5))]⟩ [wr (i3 + (ln r5))]) g6 ?_
  refine Sz hT 1 [3,7,8,9] ⟨[(3,vs 24 6 s_int (l2 ++ [wr (i3 + (ln r5))])),(7,.ps .fopt (s_Stmt.F r1)),(8,vi (ln r1)),(9,vi i3)],[(24,rb 6 s_int (l2 ++ [wr (i3 + (ln r5))])),(23,⟨5,3,1,false,false,s_int.F [wr (i3 + (ln r5))]⟩),(5,cb 2 95 11 (eStmt x4))],7⟩ ?_
  refine Rgd hT 2 [3,7,8,9] [(9,vi (wr (i3 + 1)))] ?_
  exact oK [3,7,8,9] [(24,10003,1)] ⟨_,by omega,by omega,l2 ++ [wr (i3 + (ln r5))],wr (i3 + 1),h,rfl⟩
 refine WA_exit ?_
 refine Qzd hT 2 [2] [(2,vs 10003 1 s_int l2)] ?_
 obtain rfl:=Option.some.inj h
 exact rK [2] [(10003,100,1)] ⟨[(2,vs 100 1 s_int l2)],[(100,rb 1 s_int l2)],2⟩ ⟨by kernel_rfl,by kernel_rfl,rfl⟩
theorem rank_within_1_1_ok {n : Nat} {a0 : Int} {a1 : Int} {a2 : List Int} {r : Bool} (h : rank_within_1_1 n a0 a1 a2 = some r) : PT Try.prog 44 [vi a0,.ref (e_i64 a1) 0,.ref (el_int a2) 0] (vb r):=by
 unfold rank_within_1_1 at h
 refine PT_bodyA hT Try.func44 rfl (by kernel_rfl) fun bad w=>?_
 refine Qzd hT 1 [0,1,2] [] ?_
 refine WA_seq ?_
 obtain ⟨J2,hJ2,h⟩:=jsome h
 refine WA_join (fun s=>∃ (b1 : Bool),J2 b1 = some r ∧ s = ⟨[(4,vb b1)],[],1⟩) ?_ ?_
 ·refine WA_drawW hT hM (by kernel_rfl) ?_
  refine Ds 4 [(8,vb (decide (a0 < a1))),(7,vb (decide (a0 < a1))),(6,vi a1),(5,vi a0)] [] [] ?_
  cases hb : (decide (a0 < a1) : Bool)
  ·replace h:=cfalse hb h
   refine Ds 8 [(4,vb false),(15,vb false),(14,vU),(13,vU),(12,vU),(11,vU),(10,vU),(9,vU)] [] [] ?_
   refine De ?_
   exact wK [4] [] ⟨false,h,rfl⟩
  replace h:=ctrue hb h
  refine Ds 3 [(11,vi a0),(10,po s_int a2),(9,vi a1)] [] [] ?_
  obtain ⟨x3,hx3,h⟩:=bsome h
  refine Dl rfl (v_index s_int .opt a2 .i64 a0 hx3) ?_
  refine Dt (.ref (e_i64 x3) 0) ?_
  refine Ds 4 [(4,vb (decide (a1 < x3))),(15,vb (decide (a1 < x3))),(14,vb (decide (a1 < x3))),(13,vi x3)] [] [] ?_
  refine De ?_
  exact wK [4] [] ⟨decide (a1 < x3),h,rfl⟩
 subst hJ2
 rintro s ⟨b1,h,rfl⟩
 obtain rfl:=Option.some.inj h
 exact rK [4] [] ⟨[(4,vb b1)],[],1⟩ ⟨by kernel_rfl,rfl⟩
theorem IndexFunc_int_frank_within_1_1_ok {n : Nat} {a0 : List Int} {a1c0 : Int} {a1c1 : List Int} {r : Int} (h : IndexFunc_int_frank_within_1_1 n a0 a1c0 a1c1 = some r) : PT Try.prog 69 [po s_int a0,.fn 44 [] [.ref (e_i64 a1c0) 0,.ref (el_int a1c1) 0]] (vi r):=by
 unfold IndexFunc_int_frank_within_1_1 at h
 refine PT_bodyA hT Try.func69 rfl (by kernel_rfl) fun bad w=>?_
 refine Qzd hT 1 [0,1] [] ?_
 refine WA_seq ?_
 refine Qgd hT 1 [0,1,6] [(6,po s_int a0)] ?_
 refine One' hT rfl (v_len s_int .opt a0) ?_
 refine Szd hT 1 [0,1,7,8] [(7,vi (ln a0)),(8,vi 0)] ?_
 refine WA_block ?_
 refine lK [0,1,7,8] [] (fun k s=>∃ q,q ≤ k ∧ q ≤ n ∧ ∃ (i1 : Int),IndexFunc_int_frank_within_1_1_L0 q a0 a1c0 a1c1 i1 = some r ∧ s = ⟨[(0,po s_int a0),(1,.fn 44 [] [.ref (e_i64 a1c0) 0,.ref (el_int a1c1) 0]),(7,vi (ln a0)),(8,vi i1)],[],1⟩) n ⟨n,Nat.le_refl _,Nat.le_refl _,0,h,rfl⟩ (by rintro s ⟨q,hq,_,i1,h,_⟩; obtain rfl:=Nat.le_zero.1 hq; rw [IndexFunc_int_frank_within_1_1_L0] at h; cases h) ?_
 clear h
 rintro k1 s ⟨q1,hk1,hn1,i1,h,rfl⟩
 rcases q1 with _ | q1
 ·rw [IndexFunc_int_frank_within_1_1_L0] at h; cases h
 rw [IndexFunc_int_frank_within_1_1_L0] at h
 refine Qzd hT 1 [0,1,7,8,9] [(9,vb (decide (i1 < (ln a0))))] ?_
 refine WA_seq ?_
 refine Ci h (fun h=>?_) fun h=>?_
 ·refine WA_skip ?_
  refine WA_seq ?_
  refine WA_block ?_
  refine Qzd hT 2 [0,1,5,7,8] [(5,vi i1)] ?_
  refine Qgd hT 3 [0,1,5,7,8,11,12,13] [(11,.fn 44 [] [.ref (e_i64 a1c0) 0,.ref (el_int a1c1) 0]),(12,po s_int a0),(13,vi i1)] ?_
  obtain ⟨x2,hx2,h⟩:=bsome h
  refine One' hT rfl (v_index s_int .opt a0 .i64 i1 hx2) ?_
  refine Sgd hT 1 [0,1,5,7,8,11,15] [(15,vi x2)] ?_
  obtain ⟨r3,hr3,h⟩:=bsome h
  refine Pt' en44 (rank_within_1_1_ok hr3) ?_
  refine Szd hT 0 [0,1,5,7,8,16] [(16,vb r3)] ?_
  refine Ci h (fun h=>?_) fun h=>?_
  ·refine Qz hT 2 [4] ⟨[(4,vi i1)],[],1⟩ ?_
   obtain rfl:=Option.some.inj h
   exact rK [4] [] ⟨[(4,vi i1)],[],1⟩ ⟨by kernel_rfl,rfl⟩
  refine WA_skip ?_
  refine Rgd hT 2 [0,1,7,8] [(8,vi (wr (i1 + 1)))] ?_
  exact oK [0,1,7,8] [] ⟨_,by omega,by omega,wr (i1 + 1),h,rfl⟩
 refine WA_exit ?_
 refine Qz hT 1 [4] ⟨[(4,vi (-1))],[],1⟩ ?_
 obtain rfl:=Option.some.inj h
 exact rK [4] [] ⟨[(4,vi (-1))],[],1⟩ ⟨by kernel_rfl,rfl⟩
theorem ContainsFunc_int_frank_within_1_1_ok {n : Nat} {a0 : List Int} {a1c0 : Int} {a1c1 : List Int} {r : Bool} (h : ContainsFunc_int_frank_within_1_1 n a0 a1c0 a1c1 = some r) : PT Try.prog 42 [po s_int a0,.fn 44 [] [.ref (e_i64 a1c0) 0,.ref (el_int a1c1) 0]] (vb r):=by
 unfold ContainsFunc_int_frank_within_1_1 at h
 refine PT_bodyA hT Try.func42 rfl (by kernel_rfl) fun bad w=>?_
 refine Qzd hT 1 [0,1] [] ?_
 refine Qg hT 2 [5,6] ⟨[(5,po s_int a0),(6,.fn 44 [] [.ref (e_i64 a1c0) 0,.ref (el_int a1c1) 0])],[],0⟩ ?_
 obtain ⟨r1,hr1,h⟩:=bsome h
 refine Pt' en69 (IndexFunc_int_frank_within_1_1_ok hr1) ?_
 refine Sz hT 2 [4] ⟨[(4,vb (decide (r1 ≥ 0)))],[],0⟩ ?_
 obtain rfl:=Option.some.inj h
 exact rK [4] [] ⟨[(4,vb (decide (r1 ≥ 0)))],[],1⟩ ⟨by kernel_rfl,rfl⟩
theorem rank_within_1_ok {n : Nat} {a0 : Int} {a1 : List Int} {a2 : List Int} {r : Bool} (h : rank_within_1 n a0 a1 a2 = some r) : PT Try.prog 43 [vi a0,.ref (el_int a1) 0,.ref (el_int a2) 0] (vb r):=by
 unfold rank_within_1 at h
 refine PT_bodyA hT Try.func43 rfl (by kernel_rfl) fun bad w=>?_
 refine Qzh hT 2 [1,2,3] [(3,bx 3 0)] [(3,cb 0 3 1 (vi a0))] 1 ?_
 refine Qgd hT 2 [5,6] [(5,po s_int a1),(6,.fn 44 [] [bx 3 0,.ref (el_int a2) 0])] ?_
 obtain ⟨r1,hr1,h⟩:=bsome h
 refine Ob [3] [po s_int a1,.fn 44 [] [bx 3 0,.ref (el_int a2) 0]] [po s_int a1,.fn 44 [] [.ref (e_i64 a0) 0,.ref (el_int a2) 0]] (vb r1) en42 (ContainsFunc_int_frank_within_1_1_ok hr1) ?_
 refine Szd hT 1 [4] [(4,vb r1)] ?_
 obtain rfl:=Option.some.inj h
 exact rK [4] [] ⟨[(4,vb r1)],[],1⟩ ⟨by kernel_rfl,rfl⟩
theorem IndexFunc_int_frank_within_1_ok {n : Nat} {a0 : List Int} {a1c0 : List Int} {a1c1 : List Int} {r : Int} (h : IndexFunc_int_frank_within_1 n a0 a1c0 a1c1 = some r) : PT Try.prog 69 [po s_int a0,.fn 43 [] [.ref (el_int a1c0) 0,.ref (el_int a1c1) 0]] (vi r):=by
 unfold IndexFunc_int_frank_within_1 at h
 refine PT_bodyA hT Try.func69 rfl (by kernel_rfl) fun bad w=>?_
 refine Qzd hT 1 [0,1] [] ?_
 refine WA_seq ?_
 refine Qgd hT 1 [0,1,6] [(6,po s_int a0)] ?_
 refine One' hT rfl (v_len s_int .opt a0) ?_
 refine Szd hT 1 [0,1,7,8] [(7,vi (ln a0)),(8,vi 0)] ?_
 refine WA_block ?_
 refine lK [0,1,7,8] [] (fun k s=>∃ q,q ≤ k ∧ q ≤ n ∧ ∃ (i1 : Int),IndexFunc_int_frank_within_1_L0 q a0 a1c0 a1c1 i1 = some r ∧ s = ⟨[(0,po s_int a0),(1,.fn 43 [] [.ref (el_int a1c0) 0,.ref (el_int a1c1) 0]),(7,vi (ln a0)),(8,vi i1)],[],1⟩) n ⟨n,Nat.le_refl _,Nat.le_refl _,0,h,rfl⟩ (by rintro s ⟨q,hq,_,i1,h,_⟩; obtain rfl:=Nat.le_zero.1 hq; rw [IndexFunc_int_frank_within_1_L0] at h; cases h) ?_
 clear h
 rintro k1 s ⟨q1,hk1,hn1,i1,h,rfl⟩
 rcases q1 with _ | q1
 ·rw [IndexFunc_int_frank_within_1_L0] at h; cases h
 rw [IndexFunc_int_frank_within_1_L0] at h
 refine Qzd hT 1 [0,1,7,8,9] [(9,vb (decide (i1 < (ln a0))))] ?_
 refine WA_seq ?_
 refine Ci h (fun h=>?_) fun h=>?_
 ·refine WA_skip ?_
  refine WA_seq ?_
  refine WA_block ?_
  refine Qzd hT 2 [0,1,5,7,8] [(5,vi i1)] ?_
  refine Qgd hT 3 [0,1,5,7,8,11,12,13] [(11,.fn 43 [] [.ref (el_int a1c0) 0,.ref (el_int a1c1) 0]),(12,po s_int a0),(13,vi i1)] ?_
  obtain ⟨x2,hx2,h⟩:=bsome h
  refine One' hT rfl (v_index s_int .opt a0 .i64 i1 hx2) ?_
  refine Sgd hT 1 [0,1,5,7,8,11,15] [(15,vi x2)] ?_
  obtain ⟨r3,hr3,h⟩:=bsome h
  refine Pt' en43 (rank_within_1_ok hr3) ?_
  refine Szd hT 0 [0,1,5,7,8,16] [(16,vb r3)] ?_
  refine Ci h (fun h=>?_) fun h=>?_
  ·refine Qz hT 2 [4] ⟨[(4,vi i1)],[],1⟩ ?_
   obtain rfl:=Option.some.inj h
   exact rK [4] [] ⟨[(4,vi i1)],[],1⟩ ⟨by kernel_rfl,rfl⟩
  refine WA_skip ?_
  refine Rgd hT 2 [0,1,7,8] [(8,vi (wr (i1 + 1)))] ?_
  exact oK [0,1,7,8] [] ⟨_,by omega,by omega,wr (i1 + 1),h,rfl⟩
 refine WA_exit ?_
 refine Qz hT 1 [4] ⟨[(4,vi (-1))],[],1⟩ ?_
 obtain rfl:=Option.some.inj h
 exact rK [4] [] ⟨[(4,vi (-1))],[],1⟩ ⟨by kernel_rfl,rfl⟩
theorem ContainsFunc_int_frank_within_1_ok {n : Nat} {a0 : List Int} {a1c0 : List Int} {a1c1 : List Int} {r : Bool} (h : ContainsFunc_int_frank_within_1 n a0 a1c0 a1c1 = some r) : PT Try.prog 42 [po s_int a0,.fn 43 [] [.ref (el_int a1c0) 0,.ref (el_int a1c1) 0]] (vb r):=by
 unfold ContainsFunc_int_frank_within_1 at h
 refine PT_bodyA hT Try.func42 rfl (by kernel_rfl) fun bad w=>?_
 refine Qzd hT 1 [0,1] [] ?_
 refine Qg hT 2 [5,6] ⟨[(5,po s_int a0),(6,.fn 43 [] [.ref (el_int a1c0) 0,.ref (el_int a1c1) 0])],[],0⟩ ?_
 obtain ⟨r1,hr1,h⟩:=bsome h
 refine Pt' en69 (IndexFunc_int_frank_within_1_ok hr1) ?_
 refine Sz hT 2 [4] ⟨[(4,vb (decide (r1 ≥ 0)))],[],0⟩ ?_
 obtain rfl:=Option.some.inj h
 exact rK [4] [] ⟨[(4,vb (decide (r1 ≥ 0)))],[],1⟩ ⟨by kernel_rfl,rfl⟩
theorem rank_within_ok {n : Nat} {a0 : List Int} {a1 : List Int} {a2 : List Int} {r : Bool} (h : rank_within n a0 a1 a2 = some r) : PT Try.prog 17 [po s_int a0,po s_int a1,po s_int a2] (vb r):=by
 unfold rank_within at h
 refine PT_bodyA hT Try.func17 rfl (by kernel_rfl) fun bad w=>?_
 refine Qzh hT 3 [0,4,5] [(4,bx 4 0),(5,bx 5 1)] [(5,cb 1 33 1 (po s_int a2)),(4,cb 0 33 1 (po s_int a1))] 2 ?_
 refine Qgd hT 2 [7,8] [(7,po s_int a0),(8,.fn 43 [] [bx 4 0,bx 5 1])] ?_
 obtain ⟨r1,hr1,h⟩:=bsome h
 refine Ob [4,5] [po s_int a0,.fn 43 [] [bx 4 0,bx 5 1]] [po s_int a0,.fn 43 [] [.ref (el_int a1) 0,.ref (el_int a2) 0]] (vb r1) en42 (ContainsFunc_int_frank_within_1_ok hr1) ?_
 refine Szd hT 1 [6] [(6,vb r1)] ?_
 obtain rfl:=Option.some.inj h
 exact rK [6] [] ⟨[(6,vb r1)],[],1⟩ ⟨by kernel_rfl,rfl⟩
theorem Clip_2int_ok {n : Nat} {a0 : List Arr2_i64} {r : List Arr2_i64} (h : Clip_2int n a0 = some r) : PT Try.prog 18 [po s_Arr2_i64 a0] (.ps .fopt (s_Arr2_i64.F r)):=by
 unfold Clip_2int at h
 refine PT_bodyA hT Try.func18 rfl (by kernel_rfl) fun bad w=>?_
 refine Qzd hT 1 [0] [] ?_
 refine Qgd hT 2 [0,3,4] [(3,po s_Arr2_i64 a0),(4,po s_Arr2_i64 a0)] ?_
 refine One' hT rfl (v_len s_Arr2_i64 .opt a0) ?_
 refine Sgd hT 1 [3,5,6] [(5,vi (ln a0)),(6,po s_Arr2_i64 a0)] ?_
 refine One' hT rfl (v_len s_Arr2_i64 .opt a0) ?_
 refine Sgd hT 0 [3,5,7] [(7,vi (ln a0))] ?_
 obtain ⟨l1,hl1,h⟩:=bsome h
 refine One' hT rfl (v_slice s_Arr2_i64 .opt a0 0 (ln a0) (some (ln a0)) l1 .fopt hl1 (by intro y hy; cases hy; rfl)) ?_
 refine Sz hT 1 [2] ⟨[(2,.ps .fopt (s_Arr2_i64.F l1))],[],0⟩ ?_
 obtain rfl:=Option.some.inj h
 exact rK [2] [] ⟨[(2,.ps .fopt (s_Arr2_i64.F l1))],[],1⟩ ⟨by kernel_rfl,rfl⟩
theorem rank_Inside_ok {n : Nat} {a0 : Prog} {a1 : List (List ByteArray)} {r : List Arr2_i64} (h : rank_Inside n a0 a1 = some r) : PT Try.prog 7 [eProg a0,po s_Lstring a1] (.ps .fopt (s_Arr2_i64.F r)):=by
 unfold rank_Inside at h
 refine PT_bodyA hT Try.func7 rfl (by kernel_rfl) fun bad w=>?_
 refine Qzh hT 2 [1,2] [(2,bx 2 0)] [(2,cb 0 26 2 (eProg a0))] 1 ?_
 refine Qzd hT 1 [1,2,5] [(5,vn)] ?_
 refine Qzd hT 1 [1,2,5,6] [(6,vn)] ?_
 refine WA_seq ?_
 refine Qgd hT 1 [1,2,5,6,12] [(12,po s_Lstring a1)] ?_
 refine One' hT rfl (v_len s_Lstring .opt a1) ?_
 refine Sz hT 1 [1,2,5,6,12,13,14] ⟨[(1,po s_Lstring a1),(2,bx 2 0),(5,vn),(6,vn),(12,po s_Lstring a1),(13,vi (ln a1)),(14,vi 0)],[(2,cb 0 26 2 (eProg a0))],1⟩ ?_
 refine WA_block ?_
 refine aW [1,2,5,6,12,13,14] ⟨[(1,po s_Lstring a1),(2,bx 2 0),(5,vn),(6,vn),(12,po s_Lstring a1),(13,vi (ln a1)),(14,vi 0)],[(2,cb 0 26 2 (eProg a0))],1⟩ ?_
 refine WA_weak (wO 6 5000 33 1) ?_
 refine lK [1,2,5,6,12,13,14] [(2,2,0),(5000,10006,0)] (fun k s=>∃ q,q ≤ k ∧ q ≤ n ∧ ∃ (l1 : List (List Int)),∃ (i2 : Int),rank_Inside_L0 q a0 a1 l1 i2 = some r ∧ s = ⟨[(1,po s_Lstring a1),(2,bx 2 0),(5,vn),(6,vs 10006 0 s_Lint l1),(12,po s_Lstring a1),(13,vi (ln a1)),(14,vi i2)],[(2,cb 0 26 2 (eProg a0)),(10006,rb 0 s_Lint l1)],1⟩) n ⟨n,Nat.le_refl _,Nat.le_refl _,([] : List (List Int)),0,h,rfl⟩ (by rintro s ⟨q,hq,_,l1,i2,h,_⟩; obtain rfl:=Nat.le_zero.1 hq; rw [rank_Inside_L0] at h; cases h) ?_
 clear h
 rintro k1 s ⟨q1,hk1,hn1,l1,i2,h,rfl⟩
 rcases q1 with _ | q1
 ·rw [rank_Inside_L0] at h; cases h
 rw [rank_Inside_L0] at h
 refine Qzd hT 1 [1,2,5,6,12,13,14,15] [(15,vb (decide (i2 < (ln a1))))] ?_
 refine WA_seq ?_
 refine Ci h (fun h=>?_) fun h=>?_
 ·refine WA_skip ?_
  refine WA_seq ?_
  refine WA_block ?_
  refine Qgd hT 0 [1,2,5,6,12,13,14] [] ?_
  obtain ⟨x3,hx3,h⟩:=bsome h
  refine One' hT rfl (v_index s_Lstring .opt a1 .i64 i2 hx3) ?_
  refine Szd hT 2 [1,2,5,6,8,12,13,14] [(8,po s_string x3)] ?_
  refine Rg hT 3 [1,2,5,12,13,14,18,19,20] ⟨[(1,po s_Lstring a1),(2,bx 2 0),(5,vn),(12,po s_Lstring a1),(13,vi (ln a1)),(14,vi i2),(18,vs 10006 0 s_Lint l1),(19,eProg a0),(20,po s_string x3)],[(2,cb 0 26 2 (eProg a0)),(10006,rb 0 s_Lint l1)],1⟩ ?_
  obtain ⟨r4,hr4,h⟩:=bsome h
  refine Pt' en15 (cost_Wrapped_ok hr4) ?_
  refine Sgh hT 1 [1,2,5,12,13,14,18,22] [(22,vs 22 1 s_Lint [r4])] [(22,⟨1,33,1,false,false,s_Lint.F [r4]⟩),(2,cb 0 26 2 (eProg a0)),(10006,rb 0 s_Lint l1)] 2 ?_
  obtain ⟨g5,h⟩:=gsome h
  refine Oa hT s_Lint 10006 0 true l1 [r4] (eO s_Lint 22 1 true ⟨1,33,1,false,false,s_Lint.F [r4]⟩ [r4]) g5 ?_
  refine Szh hT 1 [1,2,5,6,12,13,14] [(6,vs 23 2 s_Lint (l1 ++ [r4]))] [(23,rb 2 s_Lint (l1 ++ [r4])),(22,⟨1,33,1,false,false,s_Lint.F [r4]⟩),(2,cb 0 26 2 (eProg a0))] 3 ?_
  refine Rgd hT 2 [1,2,5,6,12,13,14] [(14,vi (wr (i2 + 1)))] ?_
  exact oK [1,2,5,6,12,13,14] [(2,2,0),(23,10006,0)] ⟨_,by omega,by omega,l1 ++ [r4],wr (i2 + 1),h,rfl⟩
 refine WA_exit ?_
 refine Qgd hT 1 [1,5,6,25] [(25,eProg a0)] ?_
 obtain ⟨r6,hr6,h⟩:=bsome h
 refine Og [] [(100,rb 1 s_int r6)] [eProg a0] [eProg a0] [] [(100,26,1)] [(26,rb 1 s_int r6)] (vs 100 1 s_int r6) (vs 26 1 s_int r6) 2 en16 (rank_ends_ok hr6) ?_
 refine Szh hT 1 [1,5,6,9] [(9,vs 26 1 s_int r6)] [(26,rb 1 s_int r6),(2,cb 0 26 2 (eProg a0)),(10006,rb 0 s_Lint l1)] 2 ?_
 refine WA_seq ?_
 refine Qgd hT 1 [1,5,6,9,27] [(27,po s_Lstring a1)] ?_
 refine One' hT rfl (v_len s_Lstring .opt a1) ?_
 refine Szd hT 1 [1,5,6,9,28,29] [(28,vi (ln a1)),(29,vi 0)] ?_
 refine WA_block ?_
 refine aW [1,5,6,9,28,29] ⟨[(1,po s_Lstring a1),(5,vn),(6,vs 10006 0 s_Lint l1),(9,vs 26 1 s_int r6),(28,vi (ln a1)),(29,vi 0)],[(26,rb 1 s_int r6),(2,cb 0 26 2 (eProg a0)),(10006,rb 0 s_Lint l1)],2⟩ ?_
 refine WA_weak (wF 26 1 (rb 1 s_int r6) [(1,po s_Lstring a1),(5,vn),(6,vs 10006 0 s_Lint l1),(9,po s_int r6),(28,vi (ln a1)),(29,vi 0)] [(2,cb 0 26 2 (eProg a0)),(10006,rb 0 s_Lint l1)] ⟨rfl,.keep _,rfl,.keep _,rfl,.keep _,rfl,.hit true,rfl,.keep _,rfl,.keep _,trivial⟩ ⟨rfl,.inl rfl,rfl,.inl rfl,trivial⟩) ?_
 refine WA_weak (wO 5 5000 39 2) ?_
 refine lK [1,5,6,9,28,29] [(5000,10005,0),(10006,10006,0)] (fun k s=>∃ q,q ≤ k ∧ q ≤ q1 ∧ ∃ (l7 : List Arr2_i64),∃ (l8 : List Int),∃ (i9 : Int),rank_Inside_L1 q a0 a1 l1 i2 r6 l7 l8 i9 = some r ∧ s = ⟨[(1,po s_Lstring a1),(5,vs 10005 0 s_Arr2_i64 l7),(6,vs 10006 0 s_Lint l1),(9,po s_int l8),(28,vi (ln a1)),(29,vi i9)],[(10005,rb 0 s_Arr2_i64 l7),(10006,rb 0 s_Lint l1)],1⟩) q1 ⟨q1,Nat.le_refl _,Nat.le_refl _,([] : List Arr2_i64),r6,0,h,rfl⟩ (by rintro s ⟨q,hq,_,l7,l8,i9,h,_⟩; obtain rfl:=Nat.le_zero.1 hq; rw [rank_Inside_L1] at h; cases h) ?_
 clear h
 rintro k2 s ⟨q2,hk2,hn2,l7,l8,i9,h,rfl⟩
 rcases q2 with _ | q2
 ·rw [rank_Inside_L1] at h; cases h
 rw [rank_Inside_L1] at h
 refine Qzd hT 1 [1,5,6,9,28,29,30] [(30,vb (decide (i9 < (ln a1))))] ?_
 refine WA_seq ?_
 refine Ci h (fun h=>?_) fun h=>?_
 ·refine WA_skip ?_
  refine WA_seq ?_
  refine WA_block ?_
  refine Qzd hT 2 [1,5,6,9,10,28,29] [(10,vi i9)] ?_
  refine Qgd hT 1 [1,5,6,9,10,28,29,32] [(32,po s_Lstring a1)] ?_
  refine One' hT rfl (v_len s_Lstring .opt a1) ?_
  refine Szd hT 1 [1,5,6,9,10,28,29,33,34] [(33,vi (ln a1)),(34,vi 0)] ?_
  refine WA_block ?_
  refine lK [1,5,6,9,10,28,29,33,34] [(10005,10005,0),(10006,10006,0)] (fun k s=>∃ q,q ≤ k ∧ q ≤ q2 ∧ ∃ (l10 : List Arr2_i64),∃ (i11 : Int),rank_Inside_L2 q a0 a1 l1 i2 r6 l7 l8 i9 l10 i11 = some r ∧ s = ⟨[(1,po s_Lstring a1),(5,vs 10005 0 s_Arr2_i64 l10),(6,vs 10006 0 s_Lint l1),(9,po s_int l8),(10,vi i9),(28,vi (ln a1)),(29,vi i9),(33,vi (ln a1)),(34,vi i11)],[(10005,rb 0 s_Arr2_i64 l10),(10006,rb 0 s_Lint l1)],1⟩) q2 ⟨q2,Nat.le_refl _,Nat.le_refl _,l7,0,h,rfl⟩ (by rintro s ⟨q,hq,_,l10,i11,h,_⟩; obtain rfl:=Nat.le_zero.1 hq; rw [rank_Inside_L2] at h; cases h) ?_
  clear h
  rintro k3 s ⟨q3,hk3,hn3,l10,i11,h,rfl⟩
  rcases q3 with _ | q3
  ·rw [rank_Inside_L2] at h; cases h
  rw [rank_Inside_L2] at h
  refine Qzd hT 1 [1,5,6,9,10,28,29,33,34,35] [(35,vb (decide (i11 < (ln a1))))] ?_
  refine WA_seq ?_
  refine Ci h (fun h=>?_) fun h=>?_
  ·refine WA_skip ?_
   refine WA_seq ?_
   obtain ⟨J13,hJ13,h⟩:=jsome h
   refine WA_join (fun s=>∃ (l12 : List Arr2_i64),J13 l12 = some r ∧ s = ⟨[(1,po s_Lstring a1),(5,vs 10005 0 s_Arr2_i64 l12),(6,vs 10006 0 s_Lint l1),(9,po s_int l8),(10,vi i9),(28,vi (ln a1)),(29,vi i9),(33,vi (ln a1)),(34,vi i11)],[(10005,rb 0 s_Arr2_i64 l12),(10006,rb 0 s_Lint l1)],1⟩) ?_ ?_
   ·refine WA_block ?_
    refine Qz hT 2 [1,5,6,9,10,11,28,29,33,34] ⟨[(1,po s_Lstring a1),(5,vs 10005 0 s_Arr2_i64 l10),(6,vs 10006 0 s_Lint l1),(9,po s_int l8),(10,vi i9),(11,vi i11),(28,vi (ln a1)),(29,vi i9),(33,vi (ln a1)),(34,vi i11)],[(10005,rb 0 s_Arr2_i64 l10),(10006,rb 0 s_Lint l1)],1⟩ ?_
    refine WA_seq ?_
    obtain ⟨J15,hJ15,h⟩:=jsome h
    refine WA_join (fun s=>∃ (b14 : Bool),J15 b14 = some r ∧ s = ⟨[(1,po s_Lstring a1),(5,vs 10005 0 s_Arr2_i64 l10),(6,vs 10006 0 s_Lint l1),(9,po s_int l8),(10,vi i9),(11,vi i11),(28,vi (ln a1)),(29,vi i9),(33,vi (ln a1)),(34,vi i11),(51,vb b14)],[(10005,rb 0 s_Arr2_i64 l10),(10006,rb 0 s_Lint l1)],1⟩) ?_ ?_
    ·refine WA_drawW hT hM (by kernel_rfl) ?_
     refine Ds 4 [(40,vb (i9 != i11)),(39,vb (i9 != i11)),(38,vi i11),(37,vi i9)] [] [] ?_
     cases hb : ((i9 != i11) : Bool)
     ·replace h:=cfalse hb h
      refine Ds 11 [(51,vb false),(50,vU),(49,vU),(48,vU),(47,vU),(46,vU),(45,vU),(44,vU),(43,vU),(42,vU),(41,vU)] [] [] ?_
      refine De ?_
      exact wK [1,5,6,9,10,11,28,29,33,34,51] [(10005,10005,0),(10006,10006,0)] ⟨false,h,rfl⟩
     replace h:=ctrue hb h
     refine Ds 2 [(42,vi i11),(41,vs 10006 0 s_Lint l1)] [] [] ?_
     obtain ⟨x16,hx16,h⟩:=bsome h
     refine Dl rfl (v_index_own s_Lint 10006 0 true (rb 0 s_Lint l1) l1 .i64 i11 hx16) ?_
     refine Dt (.box 10006 0 i11.toNat 0) ?_
     refine Dl rfl (v_load_row s_Lint 10006 0 (rb 0 s_Lint l1) l1 i11.toNat 0 x16 (po s_int x16) (idx_some hx16).2) ?_
     refine Dt (po s_int x16) ?_
     refine Ds 2 [(46,vi i9),(45,vs 10006 0 s_Lint l1)] [] [] ?_
     obtain ⟨x17,hx17,h⟩:=bsome h
     refine Dl rfl (v_index_own s_Lint 10006 0 true (rb 0 s_Lint l1) l1 .i64 i9 hx17) ?_
     refine Dt (.box 10006 0 i9.toNat 0) ?_
     refine Dl rfl (v_load_row s_Lint 10006 0 (rb 0 s_Lint l1) l1 i9.toNat 0 x17 (po s_int x17) (idx_some hx17).2) ?_
     refine Dt (po s_int x17) ?_
     refine Ds 1 [(49,po s_int l8)] [] [] ?_
     obtain ⟨r18,hr18,h⟩:=bsome h
     refine Dp [po s_int x16,po s_int x17,po s_int l8] (vb r18) en17 (rank_within_ok hr18) ?_
     refine Ds 1 [(51,vb r18)] [] [] ?_
     refine De ?_
     exact wK [1,5,6,9,10,11,28,29,33,34,51] [(10005,10005,0),(10006,10006,0)] ⟨r18,h,rfl⟩
    subst hJ15
    rintro s ⟨b14,h,rfl⟩
    skip
    refine Ci h (fun h=>?_) fun h=>?_
    ·refine Rgh hT 5 [1,6,9,10,28,29,33,34,52,56] [(52,vs 10005 0 s_Arr2_i64 l10),(56,vs 56 1 s_Arr2_i64 [(Arr2_i64.mk i9 i11)])] [(56,⟨1,39,2,false,false,s_Arr2_i64.F [(Arr2_i64.mk i9 i11)]⟩),(10005,rb 0 s_Arr2_i64 l10),(10006,rb 0 s_Lint l1)] 2 ?_
     obtain ⟨g19,h⟩:=gsome h
     refine Oa hT s_Arr2_i64 10005 0 true l10 [(Arr2_i64.mk i9 i11)] (eO s_Arr2_i64 56 1 true ⟨1,39,2,false,false,s_Arr2_i64.F [(Arr2_i64.mk i9 i11)]⟩ [(Arr2_i64.mk i9 i11)]) g19 ?_
     refine Sgh hT 1 [1,5,6,9,10,28,29,33,34] [(5,vs 57 2 s_Arr2_i64 (l10 ++ [(Arr2_i64.mk i9 i11)]))] [(57,rb 2 s_Arr2_i64 (l10 ++ [(Arr2_i64.mk i9 i11)])),(56,⟨1,39,2,false,false,s_Arr2_i64.F [(Arr2_i64.mk i9 i11)]⟩),(10006,rb 0 s_Lint l1)] 3 ?_
     exact oK [1,5,6,9,10,28,29,33,34] [(57,10005,0),(10006,10006,0)] ⟨l10 ++ [(Arr2_i64.mk i9 i11)],h,rfl⟩
    exact sK [1,5,6,9,10,28,29,33,34] [(10005,10005,0),(10006,10006,0)] ⟨l10,h,rfl⟩
   subst hJ13
   rintro s ⟨l12,h,rfl⟩
   skip
   refine Rgd hT 2 [1,5,6,9,10,28,29,33,34] [(34,vi (wr (i11 + 1)))] ?_
   exact oK [1,5,6,9,10,28,29,33,34] [(10005,10005,0),(10006,10006,0)] ⟨_,by omega,by omega,l12,wr (i11 + 1),h,rfl⟩
  refine WA_exit ?_
  refine Rgd hT 2 [1,5,6,9,28,29] [(29,vi (wr (i9 + 1)))] ?_
  exact oK [1,5,6,9,28,29] [(10005,10005,0),(10006,10006,0)] ⟨_,by omega,by omega,l10,l8,wr (i9 + 1),h,rfl⟩
 refine WA_exit ?_
 refine Qgd hT 1 [60] [(60,vs 10005 0 s_Arr2_i64 l7)] ?_
 refine WO_weak (wF 10005 0 (rb 0 s_Arr2_i64 l7) [(60,po s_Arr2_i64 l7)] [(10006,rb 0 s_Lint l1)] ⟨rfl,.hit true,trivial⟩ ⟨rfl,.inl rfl,trivial⟩) ?_
 obtain ⟨r20,hr20,h⟩:=bsome h
 refine Pt' en18 (Clip_2int_ok hr20) ?_
 refine Szd hT 1 [4] [(4,.ps .fopt (s_Arr2_i64.F r20))] ?_
 obtain rfl:=Option.some.inj h
 exact rK [4] [] ⟨[(4,.ps .fopt (s_Arr2_i64.F r20))],[],1⟩ ⟨by kernel_rfl,rfl⟩
theorem math_bits_Mul64_ok {n : Nat} {a0 : Int} {a1 : Int} {r : Int × Int} (h : math_bits_Mul64 n a0 a1 = some r) : PT Try.prog 71 [.p (.int .u64 a0),.p (.int .u64 a1)] (.tup [.p (.int .u64 r.1),.p (.int .u64 r.2)]):=by
 unfold math_bits_Mul64 at h
 refine PT_bodyA hT Try.func71 rfl (by kernel_rfl) fun bad w=>?_
 refine Qzd hT 2 [0,1] [] ?_
 refine Qzd hT 3 [0,1,6] [(6,.p (.int .u64 (IntKind.u64.wrap ((BitVec.ofInt 64 a0 &&& BitVec.ofInt 64 4294967295).toNat : Nat))))] ?_
 refine Qgd hT 1 [0,1,6,16] [(16,.p (.int .u64 a0))] ?_
 obtain ⟨x1,hx1,h⟩:=bsome h
 refine One' hT rfl (ev_shr .u64 .u64 a0 32 hx1 (by kernel_rfl) (by kernel_rfl)) ?_
 refine Szd hT 1 [0,1,6,7] [(7,.p (.int .u64 x1))] ?_
 refine Qzd hT 3 [0,1,6,7,8] [(8,.p (.int .u64 (IntKind.u64.wrap ((BitVec.ofInt 64 a1 &&& BitVec.ofInt 64 4294967295).toNat : Nat))))] ?_
 refine Qgd hT 1 [0,1,6,7,8,20] [(20,.p (.int .u64 a1))] ?_
 obtain ⟨x2,hx2,h⟩:=bsome h
 refine One' hT rfl (ev_shr .u64 .u64 a1 32 hx2 (by kernel_rfl) (by kernel_rfl)) ?_
 refine Szd hT 1 [0,1,6,7,8,9] [(9,.p (.int .u64 x2))] ?_
 refine Qzd hT 4 [0,1,6,7,8,9,10] [(10,.p (.int .u64 (IntKind.u64.wrap ((IntKind.u64.wrap ((BitVec.ofInt 64 a0 &&& BitVec.ofInt 64 4294967295).toNat : Nat)) * (IntKind.u64.wrap ((BitVec.ofInt 64 a1 &&& BitVec.ofInt 64 4294967295).toNat : Nat))))))] ?_
 refine Qg hT 4 [0,1,6,7,9,27,28] ⟨[(0,.p (.int .u64 a0)),(1,.p (.int .u64 a1)),(6,.p (.int .u64 (IntKind.u64.wrap ((BitVec.ofInt 64 a0 &&& BitVec.ofInt 64 4294967295).toNat : Nat)))),(7,.p (.int .u64 x1)),(9,.p (.int .u64 x2)),(27,.p (.int .u64 (IntKind.u64.wrap (x1 * (IntKind.u64.wrap ((BitVec.ofInt 64 a1 &&& BitVec.ofInt 64 4294967295).toNat : Nat)))))),(28,.p (.int .u64 (IntKind.u64.wrap ((IntKind.u64.wrap ((BitVec.ofInt 64 a0 &&& BitVec.ofInt 64 4294967295).toNat : Nat)) * (IntKind.u64.wrap ((BitVec.ofInt 64 a1 &&& BitVec.ofInt 64 4294967295).toNat : Nat))))))],[],0⟩ ?_
 obtain ⟨x3,hx3,h⟩:=bsome h
 refine One' hT rfl (ev_shr .u64 .u64 (IntKind.u64.wrap ((IntKind.u64.wrap ((BitVec.ofInt 64 a0 &&& BitVec.ofInt 64 4294967295).toNat : Nat)) * (IntKind.u64.wrap ((BitVec.ofInt 64 a1 &&& BitVec.ofInt 64 4294967295).toNat : Nat)))) 32 hx3 (by kernel_rfl) (by kernel_rfl)) ?_
 refine Szd hT 2 [0,1,6,7,9,11] [(11,.p (.int .u64 (IntKind.u64.wrap ((IntKind.u64.wrap (x1 * (IntKind.u64.wrap ((BitVec.ofInt 64 a1 &&& BitVec.ofInt 64 4294967295).toNat : Nat)))) + x3))))] ?_
 refine Qzd hT 3 [0,1,6,7,9,11,12] [(12,.p (.int .u64 (IntKind.u64.wrap ((BitVec.ofInt 64 (IntKind.u64.wrap ((IntKind.u64.wrap (x1 * (IntKind.u64.wrap ((BitVec.ofInt 64 a1 &&& BitVec.ofInt 64 4294967295).toNat : Nat)))) + x3)) &&& BitVec.ofInt 64 4294967295).toNat : Nat))))] ?_
 refine Qgd hT 1 [0,1,6,7,9,12,33] [(33,.p (.int .u64 (IntKind.u64.wrap ((IntKind.u64.wrap (x1 * (IntKind.u64.wrap ((BitVec.ofInt 64 a1 &&& BitVec.ofInt 64 4294967295).toNat : Nat)))) + x3))))] ?_
 obtain ⟨x4,hx4,h⟩:=bsome h
 refine One' hT rfl (ev_shr .u64 .u64 (IntKind.u64.wrap ((IntKind.u64.wrap (x1 * (IntKind.u64.wrap ((BitVec.ofInt 64 a1 &&& BitVec.ofInt 64 4294967295).toNat : Nat)))) + x3)) 32 hx4 (by kernel_rfl) (by kernel_rfl)) ?_
 refine Szd hT 1 [0,1,6,7,9,12,13] [(13,.p (.int .u64 x4))] ?_
 refine Qzd hT 6 [0,1,7,9,12,13] [(12,.p (.int .u64 (IntKind.u64.wrap ((IntKind.u64.wrap ((BitVec.ofInt 64 (IntKind.u64.wrap ((IntKind.u64.wrap (x1 * (IntKind.u64.wrap ((BitVec.ofInt 64 a1 &&& BitVec.ofInt 64 4294967295).toNat : Nat)))) + x3)) &&& BitVec.ofInt 64 4294967295).toNat : Nat)) + (IntKind.u64.wrap ((IntKind.u64.wrap ((BitVec.ofInt 64 a0 &&& BitVec.ofInt 64 4294967295).toNat : Nat)) * x2))))))] ?_
 refine Qgd hT 6 [0,1,44,45] [(44,.p (.int .u64 (IntKind.u64.wrap ((IntKind.u64.wrap (x1 * x2)) + x4)))),(45,.p (.int .u64 (IntKind.u64.wrap ((IntKind.u64.wrap ((BitVec.ofInt 64 (IntKind.u64.wrap ((IntKind.u64.wrap (x1 * (IntKind.u64.wrap ((BitVec.ofInt 64 a1 &&& BitVec.ofInt 64 4294967295).toNat : Nat)))) + x3)) &&& BitVec.ofInt 64 4294967295).toNat : Nat)) + (IntKind.u64.wrap ((IntKind.u64.wrap ((BitVec.ofInt 64 a0 &&& BitVec.ofInt 64 4294967295).toNat : Nat)) * x2))))))] ?_
 obtain ⟨x5,hx5,h⟩:=bsome h
 refine One' hT rfl (ev_shr .u64 .u64 (IntKind.u64.wrap ((IntKind.u64.wrap ((BitVec.ofInt 64 (IntKind.u64.wrap ((IntKind.u64.wrap (x1 * (IntKind.u64.wrap ((BitVec.ofInt 64 a1 &&& BitVec.ofInt 64 4294967295).toNat : Nat)))) + x3)) &&& BitVec.ofInt 64 4294967295).toNat : Nat)) + (IntKind.u64.wrap ((IntKind.u64.wrap ((BitVec.ofInt 64 a0 &&& BitVec.ofInt 64 4294967295).toNat : Nat)) * x2)))) 32 hx5 (by kernel_rfl) (by kernel_rfl)) ?_
 refine Szd hT 2 [0,1,4] [(4,.p (.int .u64 (IntKind.u64.wrap ((IntKind.u64.wrap ((IntKind.u64.wrap (x1 * x2)) + x4)) + x5))))] ?_
 refine Qzd hT 4 [4,5] [(5,.p (.int .u64 (IntKind.u64.wrap (a0 * a1))))] ?_
 obtain rfl:=Option.some.inj h
 exact rK [4,5] [] ⟨[(4,.p (.int .u64 (IntKind.u64.wrap ((IntKind.u64.wrap ((IntKind.u64.wrap (x1 * x2)) + x4)) + x5)))),(5,.p (.int .u64 (IntKind.u64.wrap (a0 * a1))))],[],1⟩ ⟨by kernel_rfl,rfl⟩
theorem math_bits_Mul_ok {n : Nat} {a0 : Int} {a1 : Int} {r : Int × Int} (h : math_bits_Mul n a0 a1 = some r) : PT Try.prog 45 [.p (.int .u64 a0),.p (.int .u64 a1)] (.tup [.p (.int .u64 r.1),.p (.int .u64 r.2)]):=by
 unfold math_bits_Mul at h
 refine PT_bodyA hT Try.func45 rfl (by kernel_rfl) fun bad w=>?_
 refine Qzd hT 2 [0,1] [] ?_
 refine WA_seq ?_
 refine WA_cond false (by kernel_rfl) (fun hb=>by cases hb) (fun _=>?_)
 refine WA_skip ?_
 refine Qg hT 2 [23,24] ⟨[(23,.p (.int .u64 a0)),(24,.p (.int .u64 a1))],[],0⟩ ?_
 obtain ⟨r1,hr1,h⟩:=bsome h
 refine Pt' en71 (math_bits_Mul64_ok hr1) ?_
 refine Sz hT 5 [8,9] ⟨[(8,.p (.int .u64 r1.1)),(9,.p (.int .u64 r1.2))],[],0⟩ ?_
 refine Qz hT 4 [4,5] ⟨[(4,.p (.int .u64 r1.1)),(5,.p (.int .u64 r1.2))],[],0⟩ ?_
 obtain rfl:=Option.some.inj h
 exact rK [4,5] [] ⟨[(4,.p (.int .u64 r1.1)),(5,.p (.int .u64 r1.2))],[],1⟩ ⟨by kernel_rfl,rfl⟩
theorem Repeat_int_ok {n : Nat} {a0 : List Int} {a1 : Int} {r : List Int} (h : Repeat_int n a0 a1 = some r) : GO Try.prog 19 [] [po s_int a0,vi a1] (vs 100 1 s_int r) [(100,rb 1 s_int r)]:=by
 unfold Repeat_int at h
 refine GO_bodyA hT Try.func19 rfl [] (by kernel_rfl) fun bad w m=>?_
 refine Qzd hT 1 [0,1] [] ?_
 refine WA_seq ?_
 refine Qzd hT 2 [0,1,10] [(10,vb (decide (a1 < 0)))] ?_
 refine Ci h (fun h=>?_) fun h=>?_
 ·refine WA_region ?_
  cases h
 refine WA_skip ?_
 refine Qgd hT 1 [0,1,13] [(13,po s_int a0)] ?_
 refine One' hT rfl (v_len s_int .opt a0) ?_
 refine Sgd hT 3 [0,15,17] [(15,.p (.int .u64 (IntKind.u64.wrap (ln a0)))),(17,.p (.int .u64 (IntKind.u64.wrap a1)))] ?_
 obtain ⟨r1,hr1,h⟩:=bsome h
 refine Pt' en45 (math_bits_Mul_ok hr1) ?_
 refine Szd hT 5 [0,5,6] [(5,.p (.int .u64 r1.1)),(6,.p (.int .u64 r1.2))] ?_
 refine WA_seq ?_
 refine WA_seq ?_
 obtain ⟨J3,hJ3,h⟩:=jsome h
 refine WA_join (fun s=>∃ (b2 : Bool),J3 b2 = some r ∧ s = ⟨[(0,po s_int a0),(6,.p (.int .u64 r1.2)),(26,vb b2)],[],2⟩) ?_ ?_
 ·refine Rg hT 3 [0,6,23] ⟨[(0,po s_int a0),(6,.p (.int .u64 r1.2)),(23,vb (decide (r1.1 > 0)))],[],1⟩ ?_
  cases hb : (decide (r1.1 > 0) : Bool)
  ·replace h:=cfalse hb h
   refine Sgd hT 3 [0,6,26] [(26,vb (decide (r1.2 > 9223372036854775807)))] ?_
   exact oK [0,6,26] [] ⟨decide (r1.2 > 9223372036854775807),h,rfl⟩
  replace h:=ctrue hb h
  refine Sgd hT 3 [0,6,26] [(26,vb true)] ?_
  exact oK [0,6,26] [] ⟨true,h,rfl⟩
 subst hJ3
 rintro s ⟨b2,h,rfl⟩
 refine Ci h (fun h=>?_) fun h=>?_
 ·refine WA_region ?_
  cases h
 refine WA_skip ?_
 refine Qgd hT 2 [0,29] [(29,vi (wr r1.2))] ?_
 obtain ⟨g4,h⟩:=gsome h
 refine One' hT rfl (ev_make s_int (wr r1.2) 0 g4 (by kernel_rfl) (by kernel_rfl) rfl) ?_
 refine Szh hT 1 [0,7] [(7,vs 30 2 s_int (List.replicate (wr r1.2).toNat (0 : Int)))] [(30,⟨2,3,1,false,false,s_int.F (List.replicate (wr r1.2).toNat (0 : Int))⟩)] 3 ?_
 refine Qgd hT 2 [7,31,32] [(31,vs 30 2 s_int (List.replicate (wr r1.2).toNat (0 : Int))),(32,po s_int a0)] ?_
 refine One' hT rfl (ev_copy s_int 30 2 (List.replicate (wr r1.2).toNat (0 : Int)) a0 (by kernel_rfl) (by kernel_rfl) (by kernel_rfl)) ?_
 refine WO_weak (wL [(33,vi ((min a0.length (List.replicate (wr r1.2).toNat (0 : Int)).length : Nat) : Int)),(7,vs 30 2 s_int (lcopy (List.replicate (wr r1.2).toNat (0 : Int)) a0)),(31,vs 30 2 s_int (lcopy (List.replicate (wr r1.2).toNat (0 : Int)) a0)),(32,po s_int a0)] [(30,⟨2,3,1,false,false,s_int.F (lcopy (List.replicate (wr r1.2).toNat (0 : Int)) a0)⟩)] ⟨VLf.refl _,(VLf.slen (by simp [TE.len,lcopy_length,rcopy_length,clr_length])),(VLf.slen (by simp [TE.len,lcopy_length,rcopy_length,clr_length])),VLf.refl _,trivial⟩ (HLe.refl _)) ?_
 refine Szh hT 1 [7,8] [(8,vi ((min a0.length (List.replicate (wr r1.2).toNat (0 : Int)).length : Nat) : Int))] [(30,⟨2,3,1,false,false,s_int.F (lcopy (List.replicate (wr r1.2).toNat (0 : Int)) a0)⟩)] 3 ?_
 refine WA_seq ?_
 refine WA_block ?_
 refine lK [7,8] [(30,30,1)] (fun k s=>∃ q,q ≤ k ∧ q ≤ n ∧ ∃ (l5 : List Int),∃ (i6 : Int),Repeat_int_L0 q a0 a1 r1 b2 l5 i6 = some r ∧ s = ⟨[(7,vs 30 1 s_int l5),(8,vi i6)],[(30,⟨1,3,1,false,false,s_int.F l5⟩)],2⟩) n ⟨n,Nat.le_refl _,Nat.le_refl _,lcopy (List.replicate (wr r1.2).toNat (0 : Int)) a0,((min a0.length (List.replicate (wr r1.2).toNat (0 : Int)).length : Nat) : Int),h,rfl⟩ (by rintro s ⟨q,hq,_,l5,i6,h,_⟩; obtain rfl:=Nat.le_zero.1 hq; rw [Repeat_int_L0] at h; cases h) ?_
 clear h
 rintro k1 s ⟨q1,hk1,hn1,l5,i6,h,rfl⟩
 rcases q1 with _ | q1
 ·rw [Repeat_int_L0] at h; cases h
 rw [Repeat_int_L0] at h
 refine WA_seq ?_
 refine Qgd hT 2 [7,8,34,35] [(34,vi i6),(35,vs 30 1 s_int l5)] ?_
 refine One' hT rfl (v_len_own s_int 30 1 true ⟨1,3,1,false,false,s_int.F l5⟩ l5) ?_
 refine Szd hT 1 [7,8,37] [(37,vb (decide (i6 < (ln l5))))] ?_
 refine Ci h (fun h=>?_) fun h=>?_
 ·refine WA_skip ?_
  refine WA_block ?_
  refine WA_drawW hT hM (by kernel_rfl) ?_
  refine Ds 3 [(40,vi i6),(39,vs 30 1 s_int l5),(38,vi i6)] [] [] ?_
  obtain ⟨g7,h⟩:=gsome h
  refine Dl rfl (ev_subR s_int 30 1 l5 i6 g7 (by kernel_rfl) (by kernel_rfl) (by kernel_rfl)) ?_
  refine Dt (.sl 30 1 i6.toNat (l5.length - i6.toNat) false) ?_
  refine Ds 2 [(43,vi i6),(42,vs 30 1 s_int l5)] [] [] ?_
  obtain ⟨g8,h⟩:=gsome h
  refine Dl rfl (ev_subL s_int 30 1 l5 i6 g8 (by kernel_rfl) (by kernel_rfl) (by kernel_rfl)) ?_
  refine Dt (.sl 30 1 0 i6.toNat true) ?_
  obtain ⟨g9,h⟩:=gsome h
  refine Dw rfl (ev_rcopy s_int 30 1 l5 i6 g9 (by kernel_rfl) (by kernel_rfl) (by kernel_rfl)) ?_
  refine Dh 2 [(8,vi (wr (i6 + ((min i6.toNat (l5.length - i6.toNat) : Nat) : Int)))),(46,vi (wr (i6 + ((min i6.toNat (l5.length - i6.toNat) : Nat) : Int))))] [(30,⟨1,3,1,false,false,s_int.F (rcopy l5 i6.toNat)⟩)] 2 [] [] ?_
  refine De ?_
  refine kW [7,8] ⟨[(7,vs 30 1 s_int l5),(8,vi (wr (i6 + ((min i6.toNat (l5.length - i6.toNat) : Nat) : Int))))],[(30,⟨1,3,1,false,false,s_int.F (rcopy l5 i6.toNat)⟩)],2⟩ ?_
  refine Wk_step (wL [(7,vs 30 1 s_int (rcopy l5 i6.toNat)),(8,vi (wr (i6 + ((min i6.toNat (l5.length - i6.toNat) : Nat) : Int))))] [(30,⟨1,3,1,false,false,s_int.F (rcopy l5 i6.toNat)⟩)] ⟨(VLf.slen (by simp [TE.len,lcopy_length,rcopy_length,clr_length])),VLf.refl _,trivial⟩ (HLe.refl _)) ?_
  exact wK [7,8] [(30,30,1)] ⟨_,by omega,by omega,rcopy l5 i6.toNat,wr (i6 + ((min i6.toNat (l5.length - i6.toNat) : Nat) : Int)),h,rfl⟩
 refine WA_exit ?_
 refine Qzd hT 2 [4] [(4,vs 30 1 s_int l5)] ?_
 refine aW [4] ⟨[(4,vs 30 1 s_int l5)],[(30,⟨1,3,1,false,false,s_int.F l5⟩)],2⟩ ?_
 refine WA_weak (wL [(4,vs 30 1 s_int l5)] [(30,rb 1 s_int l5)] ⟨VLf.refl _,trivial⟩ ⟨rfl,.inr (.inr rfl),trivial⟩) ?_
 obtain rfl:=Option.some.inj h
 exact rR [(30,100,1)] ⟨[(4,vs 100 1 s_int l5)],[(100,rb 1 s_int l5)],2⟩ ⟨by kernel_rfl,by kernel_rfl,rfl⟩
theorem rank_Order_1_ok {n : Nat} {a0 : Arr2_i64} {a1 : Int} {a2 : List Int} {r : Bool} (h : rank_Order_1 n a0 a1 a2 = some r) : PT Try.prog 21 [eArr2_i64 a0,.ref (e_i64 a1) 0,.ref (el_int a2) 0] (vb r):=by
 unfold rank_Order_1 at h
 refine PT_bodyA hT Try.func21 rfl (by kernel_rfl) fun bad w=>?_
 refine Qzh hT 2 [1,2,3] [(3,bx 3 0)] [(3,cb 0 39 2 (eArr2_i64 a0))] 1 ?_
 refine WA_seq ?_
 obtain ⟨J2,hJ2,h⟩:=jsome h
 refine WA_join (fun s=>∃ (b1 : Bool),J2 b1 = some r ∧ s = ⟨[(4,vb b1)],[],1⟩) ?_ ?_
 ·refine Rgd hT 5 [2,3,9] [(9,vb (a0.e1 == a1))] ?_
  cases hb : ((a0.e1 == a1) : Bool)
  ·replace h:=cfalse hb h
   refine Sgd hT 8 [4] [(4,vb false)] ?_
   exact oK [4] [] ⟨false,h,rfl⟩
  replace h:=ctrue hb h
  refine Sgd hT 3 [9,10,12] [(10,po s_int a2),(12,vi a0.e0)] ?_
  obtain ⟨x3,hx3,h⟩:=bsome h
  refine One' hT rfl (v_index s_int .opt a2 .i64 a0.e0 hx3) ?_
  refine Sg hT 4 [4] ⟨[(4,vb (decide (x3 < 0)))],[(3,cb 0 39 2 (eArr2_i64 a0))],1⟩ ?_
  exact oK [4] [] ⟨decide (x3 < 0),h,rfl⟩
 subst hJ2
 rintro s ⟨b1,h,rfl⟩
 obtain rfl:=Option.some.inj h
 exact rK [4] [] ⟨[(4,vb b1)],[],1⟩ ⟨by kernel_rfl,rfl⟩
theorem IndexFunc_2int_frank_Order_1_ok {n : Nat} {a0 : List Arr2_i64} {a1c0 : Int} {a1c1 : List Int} {r : Int} (h : IndexFunc_2int_frank_Order_1 n a0 a1c0 a1c1 = some r) : PT Try.prog 46 [po s_Arr2_i64 a0,.fn 21 [] [.ref (e_i64 a1c0) 0,.ref (el_int a1c1) 0]] (vi r):=by
 unfold IndexFunc_2int_frank_Order_1 at h
 refine PT_bodyA hT Try.func46 rfl (by kernel_rfl) fun bad w=>?_
 refine Qzd hT 1 [0,1] [] ?_
 refine WA_seq ?_
 refine Qgd hT 1 [0,1,6] [(6,po s_Arr2_i64 a0)] ?_
 refine One' hT rfl (v_len s_Arr2_i64 .opt a0) ?_
 refine Szd hT 1 [0,1,7,8] [(7,vi (ln a0)),(8,vi 0)] ?_
 refine WA_block ?_
 refine lK [0,1,7,8] [] (fun k s=>∃ q,q ≤ k ∧ q ≤ n ∧ ∃ (i1 : Int),IndexFunc_2int_frank_Order_1_L0 q a0 a1c0 a1c1 i1 = some r ∧ s = ⟨[(0,po s_Arr2_i64 a0),(1,.fn 21 [] [.ref (e_i64 a1c0) 0,.ref (el_int a1c1) 0]),(7,vi (ln a0)),(8,vi i1)],[],1⟩) n ⟨n,Nat.le_refl _,Nat.le_refl _,0,h,rfl⟩ (by rintro s ⟨q,hq,_,i1,h,_⟩; obtain rfl:=Nat.le_zero.1 hq; rw [IndexFunc_2int_frank_Order_1_L0] at h; cases h) ?_
 clear h
 rintro k1 s ⟨q1,hk1,hn1,i1,h,rfl⟩
 rcases q1 with _ | q1
 ·rw [IndexFunc_2int_frank_Order_1_L0] at h; cases h
 rw [IndexFunc_2int_frank_Order_1_L0] at h
 refine Qzd hT 1 [0,1,7,8,9] [(9,vb (decide (i1 < (ln a0))))] ?_
 refine WA_seq ?_
 refine Ci h (fun h=>?_) fun h=>?_
 ·refine WA_skip ?_
  refine WA_seq ?_
  refine WA_block ?_
  refine Qzd hT 2 [0,1,5,7,8] [(5,vi i1)] ?_
  refine Qgd hT 3 [0,1,5,7,8,11,12,13] [(11,.fn 21 [] [.ref (e_i64 a1c0) 0,.ref (el_int a1c1) 0]),(12,po s_Arr2_i64 a0),(13,vi i1)] ?_
  obtain ⟨x2,hx2,h⟩:=bsome h
  refine One' hT rfl (v_index s_Arr2_i64 .opt a0 .i64 i1 hx2) ?_
  refine Sgd hT 1 [0,1,5,7,8,11,15] [(15,eArr2_i64 x2)] ?_
  obtain ⟨r3,hr3,h⟩:=bsome h
  refine Pt' en21 (rank_Order_1_ok hr3) ?_
  refine Szd hT 0 [0,1,5,7,8,16] [(16,vb r3)] ?_
  refine Ci h (fun h=>?_) fun h=>?_
  ·refine Qz hT 2 [4] ⟨[(4,vi i1)],[],1⟩ ?_
   obtain rfl:=Option.some.inj h
   exact rK [4] [] ⟨[(4,vi i1)],[],1⟩ ⟨by kernel_rfl,rfl⟩
  refine WA_skip ?_
  refine Rgd hT 2 [0,1,7,8] [(8,vi (wr (i1 + 1)))] ?_
  exact oK [0,1,7,8] [] ⟨_,by omega,by omega,wr (i1 + 1),h,rfl⟩
 refine WA_exit ?_
 refine Qz hT 1 [4] ⟨[(4,vi (-1))],[],1⟩ ?_
 obtain rfl:=Option.some.inj h
 exact rK [4] [] ⟨[(4,vi (-1))],[],1⟩ ⟨by kernel_rfl,rfl⟩
theorem ContainsFunc_2int_frank_Order_1_ok {n : Nat} {a0 : List Arr2_i64} {a1c0 : Int} {a1c1 : List Int} {r : Bool} (h : ContainsFunc_2int_frank_Order_1 n a0 a1c0 a1c1 = some r) : PT Try.prog 20 [po s_Arr2_i64 a0,.fn 21 [] [.ref (e_i64 a1c0) 0,.ref (el_int a1c1) 0]] (vb r):=by
 unfold ContainsFunc_2int_frank_Order_1 at h
 refine PT_bodyA hT Try.func20 rfl (by kernel_rfl) fun bad w=>?_
 refine Qzd hT 1 [0,1] [] ?_
 refine Qg hT 2 [5,6] ⟨[(5,po s_Arr2_i64 a0),(6,.fn 21 [] [.ref (e_i64 a1c0) 0,.ref (el_int a1c1) 0])],[],0⟩ ?_
 obtain ⟨r1,hr1,h⟩:=bsome h
 refine Pt' en46 (IndexFunc_2int_frank_Order_1_ok hr1) ?_
 refine Sz hT 2 [4] ⟨[(4,vb (decide (r1 ≥ 0)))],[],0⟩ ?_
 obtain rfl:=Option.some.inj h
 exact rK [4] [] ⟨[(4,vb (decide (r1 ≥ 0)))],[],1⟩ ⟨by kernel_rfl,rfl⟩
theorem rank_Order_ok {n : Nat} {a0 : Prog} {a1 : List (List ByteArray)} {r : (List Int) × Int} (h : rank_Order n a0 a1 = some r) : PT Try.prog 8 [eProg a0,po s_Lstring a1] (.tup [.ps .fopt (s_int.F r.1),vi r.2]):=by
 unfold rank_Order at h
 refine PT_bodyA hT Try.func8 rfl (by kernel_rfl) fun bad w=>?_
 refine Qzh hT 3 [1,2] [(2,bx 2 0)] [(2,cb 0 26 2 (eProg a0))] 1 ?_
 refine Qgd hT 2 [1,12,13] [(12,eProg a0),(13,po s_Lstring a1)] ?_
 obtain ⟨r1,hr1,h⟩:=bsome h
 refine Pt' en7 (rank_Inside_ok hr1) ?_
 refine Szd hT 1 [1,6] [(6,.ps .fopt (s_Arr2_i64.F r1))] ?_
 refine Qg hT 2 [1,6,15,16] ⟨[(1,po s_Lstring a1),(6,.ps .fopt (s_Arr2_i64.F r1)),(15,vs 15 1 s_int [(-1)]),(16,po s_Lstring a1)],[(15,⟨1,3,1,false,false,s_int.F [(-1)]⟩),(2,cb 0 26 2 (eProg a0))],2⟩ ?_
 refine One' hT rfl (v_len s_Lstring .opt a1) ?_
 refine Sgd hT 0 [1,6,15,17] [(17,vi (ln a1))] ?_
 refine WO_weak (wF 15 1 ⟨1,3,1,false,false,s_int.F [(-1)]⟩ [(1,po s_Lstring a1),(6,.ps .fopt (s_Arr2_i64.F r1)),(15,po s_int [(-1)]),(17,vi (ln a1))] [(2,cb 0 26 2 (eProg a0))] ⟨rfl,.keep _,rfl,.keep _,rfl,.hit true,rfl,.keep _,trivial⟩ ⟨rfl,.inl rfl,trivial⟩) ?_
 obtain ⟨r2,hr2,h⟩:=bsome h
 refine Og [] [(100,rb 1 s_int r2)] [po s_int [(-1)],vi (ln a1)] [po s_int [(-1)],vi (ln a1)] [] [(100,18,2)] [(18,rb 2 s_int r2)] (vs 100 1 s_int r2) (vs 18 2 s_int r2) 3 en19 (Repeat_int_ok hr2) ?_
 refine Szh hT 2 [1,6,7] [(7,bx 7 3)] [(7,cb 3 33 1 (vs 18 2 s_int r2)),(18,rb 2 s_int r2),(2,cb 0 26 2 (eProg a0))] 4 ?_
 refine WA_seq ?_
 refine Qgd hT 1 [1,6,7,19] [(19,po s_Lstring a1)] ?_
 refine One' hT rfl (v_len s_Lstring .opt a1) ?_
 refine Szd hT 1 [1,6,7,20,21] [(20,vi (ln a1)),(21,vi 0)] ?_
 refine WA_block ?_
 refine lK [1,6,7,20,21] [(7,7,0),(18,18,0)] (fun k s=>∃ q,q ≤ k ∧ q ≤ n ∧ ∃ (l3 : List Int),∃ (i4 : Int),rank_Order_L0 q a0 a1 r1 r2 l3 i4 = some r ∧ s = ⟨[(1,po s_Lstring a1),(6,.ps .fopt (s_Arr2_i64.F r1)),(7,bx 7 0),(20,vi (ln a1)),(21,vi i4)],[(7,cb 0 33 1 (vs 18 0 s_int l3)),(18,rb 0 s_int l3)],1⟩) n ⟨n,Nat.le_refl _,Nat.le_refl _,r2,0,h,rfl⟩ (by rintro s ⟨q,hq,_,l3,i4,h,_⟩; obtain rfl:=Nat.le_zero.1 hq; rw [rank_Order_L0] at h; cases h) ?_
 clear h
 rintro k1 s ⟨q1,hk1,hn1,l3,i4,h,rfl⟩
 rcases q1 with _ | q1
 ·rw [rank_Order_L0] at h; cases h
 rw [rank_Order_L0] at h
 refine Qzd hT 1 [1,6,7,20,21,22] [(22,vb (decide (i4 < (ln a1))))] ?_
 refine WA_seq ?_
 refine Ci h (fun h=>?_) fun h=>?_
 ·refine WA_skip ?_
  refine WA_seq ?_
  refine WA_block ?_
  refine Qzd hT 2 [1,6,7,8,20,21] [(8,vi i4)] ?_
  refine Qzd hT 1 [1,6,7,8,9,20,21] [(9,vi (-1))] ?_
  refine WA_seq ?_
  refine Qgd hT 1 [1,6,7,8,9,20,21,24] [(24,po s_Lstring a1)] ?_
  refine One' hT rfl (v_len s_Lstring .opt a1) ?_
  refine Szd hT 1 [1,6,7,8,9,20,21,25,26] [(25,vi (ln a1)),(26,vi 0)] ?_
  refine WA_block ?_
  refine lK [1,6,7,8,9,20,21,25,26] [(7,7,0),(18,18,0)] (fun k s=>∃ q,q ≤ k ∧ q ≤ q1 ∧ ∃ (i5 : Int),∃ (i6 : Int),rank_Order_L1 q a0 a1 r1 r2 l3 i4 i5 i6 = some r ∧ s = ⟨[(1,po s_Lstring a1),(6,.ps .fopt (s_Arr2_i64.F r1)),(7,bx 7 0),(8,vi i4),(9,vi i5),(20,vi (ln a1)),(21,vi i4),(25,vi (ln a1)),(26,vi i6)],[(7,cb 0 33 1 (vs 18 0 s_int l3)),(18,rb 0 s_int l3)],1⟩) q1 ⟨q1,Nat.le_refl _,Nat.le_refl _,(-1),0,h,rfl⟩ (by rintro s ⟨q,hq,_,i5,i6,h,_⟩; obtain rfl:=Nat.le_zero.1 hq; rw [rank_Order_L1] at h; cases h) ?_
  clear h
  rintro k2 s ⟨q2,hk2,hn2,i5,i6,h,rfl⟩
  rcases q2 with _ | q2
  ·rw [rank_Order_L1] at h; cases h
  rw [rank_Order_L1] at h
  refine Qzd hT 1 [1,6,7,8,9,20,21,25,26,27] [(27,vb (decide (i6 < (ln a1))))] ?_
  refine WA_seq ?_
  refine Ci h (fun h=>?_) fun h=>?_
  ·refine WA_skip ?_
   refine WA_seq ?_
   obtain ⟨J8,hJ8,h⟩:=jsome h
   refine WA_join (fun s=>∃ (i7 : Int),J8 i7 = some r ∧ s = ⟨[(1,po s_Lstring a1),(6,.ps .fopt (s_Arr2_i64.F r1)),(7,bx 7 0),(8,vi i4),(9,vi i7),(20,vi (ln a1)),(21,vi i4),(25,vi (ln a1)),(26,vi i6)],[(7,cb 0 33 1 (vs 18 0 s_int l3)),(18,rb 0 s_int l3)],1⟩) ?_ ?_
   ·refine WA_block ?_
    refine Qzh hT 3 [1,6,7,8,9,10,20,21,25,26] [(10,bx 10 1)] [(10,cb 1 3 1 (vi i6)),(7,cb 0 33 1 (vs 18 0 s_int l3)),(18,rb 0 s_int l3)] 2 ?_
    refine Qgd hT 2 [1,6,7,8,9,10,20,21,25,26,29,30] [(29,.ps .fopt (s_Arr2_i64.F r1)),(30,.fn 21 [] [bx 10 1,bx 7 0])] ?_
    obtain ⟨r9,hr9,h⟩:=bsome h
    refine WO_pk ⟨[(1,po s_Lstring a1),(6,.ps .fopt (s_Arr2_i64.F r1)),(7,bx 7 0),(8,vi i4),(9,vi i5),(10,bx 10 1),(20,vi (ln a1)),(21,vi i4),(25,vi (ln a1)),(26,vi i6),(29,.ps .fopt (s_Arr2_i64.F r1)),(30,.fn 21 [] [bx 10 1,bx 7 0])],[(10,cb 1 3 1 (vi i6)),(7,cb 0 33 1 (po s_int l3))],2⟩ (wF 18 0 (rb 0 s_int l3) [(1,po s_Lstring a1),(6,.ps .fopt (s_Arr2_i64.F r1)),(7,bx 7 0),(8,vi i4),(9,vi i5),(10,bx 10 1),(20,vi (ln a1)),(21,vi i4),(25,vi (ln a1)),(26,vi i6),(29,.ps .fopt (s_Arr2_i64.F r1)),(30,.fn 21 [] [bx 10 1,bx 7 0])] [(10,cb 1 3 1 (vi i6)),(7,cb 0 33 1 (po s_int l3))] ⟨rfl,.keep _,rfl,.keep _,rfl,.keep _,rfl,.keep _,rfl,.keep _,rfl,.keep _,rfl,.keep _,rfl,.keep _,rfl,.keep _,rfl,.keep _,rfl,.keep _,rfl,.keep _,trivial⟩ ⟨rfl,.inl rfl,rfl,.inr ⟨rfl,rfl,.hit true,trivial⟩,trivial⟩) [10,7] [.ps .fopt (s_Arr2_i64.F r1),.fn 21 [] [bx 10 1,bx 7 0]] [.ps .fopt (s_Arr2_i64.F r1),.fn 21 [] [.ref (e_i64 i6) 0,.ref (el_int l3) 0]] (vb r9) en20 (PT_args ((ContainsFunc_2int_frank_Order_1_ok hr9)) ⟨VLe.fopt_opt,VLe.refl _,trivial⟩) ?_
    refine Szd hT 1 [1,6,7,8,9,10,11,20,21,25,26] [(11,vb r9)] ?_
    refine WA_seq ?_
    obtain ⟨J11,hJ11,h⟩:=jsome h
    refine WA_join (fun s=>∃ (b10 : Bool),J11 b10 = some r ∧ s = ⟨[(1,po s_Lstring a1),(6,.ps .fopt (s_Arr2_i64.F r1)),(7,bx 7 0),(8,vi i4),(9,vi i5),(10,bx 10 0),(20,vi (ln a1)),(21,vi i4),(25,vi (ln a1)),(26,vi i6),(44,vb b10)],[(7,cb 0 33 1 (vs 18 0 s_int l3)),(10,cb 0 3 1 (vi i6)),(18,rb 0 s_int l3)],1⟩) ?_ ?_
    ·refine Rgd hT 2 [1,6,7,8,9,10,11,20,21,25,26,32,33] [(32,vs 18 0 s_int l3),(33,vi i6)] ?_
     obtain ⟨x12,hx12,h⟩:=bsome h
     refine One' hT rfl (v_index_own s_int 18 0 true (rb 0 s_int l3) l3 .i64 i6 hx12) ?_
     refine Sgd hT 0 [1,6,7,8,9,10,11,20,21,25,26,34] [(34,.box 18 0 i6.toNat 0)] ?_
     refine One' hT rfl (v_load_row s_int 18 0 (rb 0 s_int l3) l3 i6.toNat 0 x12 (vi x12) (idx_some hx12).2) ?_
     refine Sgd hT 2 [1,6,7,8,9,10,11,20,21,25,26,37] [(37,vb (decide (x12 < 0)))] ?_
     cases hb : (decide (x12 < 0) : Bool)
     ·replace h:=cfalse hb h
      refine Sgd hT 7 [1,6,7,8,9,10,20,21,25,26,44] [(44,vb false)] ?_
      exact oK [1,6,7,8,9,10,20,21,25,26,44] [(7,7,0),(10,10,0),(18,18,0)] ⟨false,h,rfl⟩
     replace h:=ctrue hb h
     refine Sg hT 4 [1,6,7,8,9,10,20,21,25,26,41] ⟨[(1,po s_Lstring a1),(6,.ps .fopt (s_Arr2_i64.F r1)),(7,bx 7 0),(8,vi i4),(9,vi i5),(10,bx 10 1),(20,vi (ln a1)),(21,vi i4),(25,vi (ln a1)),(26,vi i6),(41,vb (!r9))],[(10,cb 1 3 1 (vi i6)),(7,cb 0 33 1 (vs 18 0 s_int l3)),(18,rb 0 s_int l3)],2⟩ ?_
     cases hb : (!r9 : Bool)
     ·replace h:=cfalse hb h
      refine Sgd hT 3 [1,6,7,8,9,10,20,21,25,26,44] [(44,vb false)] ?_
      exact oK [1,6,7,8,9,10,20,21,25,26,44] [(7,7,0),(10,10,0),(18,18,0)] ⟨false,h,rfl⟩
     replace h:=ctrue hb h
     refine Sgd hT 3 [1,6,7,8,9,10,20,21,25,26,44] [(44,vb (decide (i5 < 0)))] ?_
     exact oK [1,6,7,8,9,10,20,21,25,26,44] [(7,7,0),(10,10,0),(18,18,0)] ⟨decide (i5 < 0),h,rfl⟩
    subst hJ11
    rintro s ⟨b10,h,rfl⟩
    skip
    refine Ci h (fun h=>?_) fun h=>?_
    ·refine Rgd hT 2 [1,6,7,8,9,20,21,25,26] [(9,vi i6)] ?_
     exact oK [1,6,7,8,9,20,21,25,26] [(7,7,0),(18,18,0)] ⟨i6,h,rfl⟩
    exact sK [1,6,7,8,9,20,21,25,26] [(7,7,0),(18,18,0)] ⟨i5,h,rfl⟩
   subst hJ8
   rintro s ⟨i7,h,rfl⟩
   skip
   refine Rgd hT 2 [1,6,7,8,9,20,21,25,26] [(26,vi (wr (i6 + 1)))] ?_
   exact oK [1,6,7,8,9,20,21,25,26] [(7,7,0),(18,18,0)] ⟨_,by omega,by omega,i7,wr (i6 + 1),h,rfl⟩
  refine WA_exit ?_
  refine WA_seq ?_
  refine Qzd hT 2 [1,6,7,8,9,20,21,48] [(48,vb (decide (i5 < 0)))] ?_
  refine Ci h (fun h=>?_) fun h=>?_
  ·refine Qzd hT 2 [4,5] [(4,vn),(5,vi 8)] ?_
   refine aW [4,5] ⟨[(4,vn),(5,vi 8)],[(7,cb 0 33 1 (vs 18 0 s_int l3)),(18,rb 0 s_int l3)],1⟩ ?_
   refine WA_weak (wL [(4,.ps .fopt (s_int.F [])),(5,vi 8)] [(7,cb 0 33 1 (vs 18 0 s_int l3)),(18,rb 0 s_int l3)] ⟨(VLe.f VLe.nil_fopt rfl),VLf.refl _,trivial⟩ ⟨rfl,.inl rfl,rfl,.inl rfl,trivial⟩) ?_
   obtain rfl:=Option.some.inj h
   exact rR [] ⟨[(4,.ps .fopt (s_int.F [])),(5,vi 8)],[],1⟩ ⟨by kernel_rfl,rfl⟩
  refine WA_skip ?_
  refine Rgd hT 3 [1,6,7,20,21,49,50,51] [(49,vs 18 0 s_int l3),(50,vi i5),(51,vi i4)] ?_
  obtain ⟨x13,hx13,h⟩:=bsome h
  refine One' hT rfl (v_index_own s_int 18 0 true (rb 0 s_int l3) l3 .i64 i5 hx13) ?_
  refine Sgd hT 0 [1,6,7,20,21,51,52] [(52,.box 18 0 i5.toNat 0)] ?_
  refine One' hT rfl (v_storeRow s_int 18 0 (rb 0 s_int l3) l3 i5.toNat 0 x13 i4 (idx_some hx13).2) ?_
  refine oW [1,6,7,20,21,51] ⟨[(1,po s_Lstring a1),(6,.ps .fopt (s_Arr2_i64.F r1)),(7,bx 7 0),(20,vi (ln a1)),(21,vi i4),(51,vi i4)],[(18,rb 0 s_int (l3.set i5.toNat i4)),(7,cb 0 33 1 (vs 18 0 s_int l3))],1⟩ ?_
  refine WO_weak (wL [(1,po s_Lstring a1),(6,.ps .fopt (s_Arr2_i64.F r1)),(7,bx 7 0),(20,vi (ln a1)),(21,vi i4),(51,vi i4)] [(18,rb 0 s_int (l3.set i5.toNat i4)),(7,cb 0 33 1 (vs 18 0 s_int (l3.set i5.toNat i4)))] ⟨VLf.refl _,VLf.refl _,VLf.refl _,VLf.refl _,VLf.refl _,VLf.refl _,trivial⟩ ⟨rfl,.inl rfl,rfl,.inr (.inl ⟨rfl,rfl,CLe.one (VLf.slen (by simp [TE.len,lcopy_length,rcopy_length,clr_length])) rfl rfl,trivial⟩),trivial⟩) ?_
  refine Sz hT 0 [1,6,7,20,21] ⟨[(1,po s_Lstring a1),(6,.ps .fopt (s_Arr2_i64.F r1)),(7,bx 7 0),(20,vi (ln a1)),(21,vi i4)],[(18,rb 0 s_int (l3.set i5.toNat i4)),(7,cb 0 33 1 (vs 18 0 s_int (l3.set i5.toNat i4)))],1⟩ ?_
  refine Rgd hT 2 [1,6,7,20,21] [(21,vi (wr (i4 + 1)))] ?_
  exact oK [1,6,7,20,21] [(7,7,0),(18,18,0)] ⟨_,by omega,by omega,l3.set i5.toNat i4,wr (i4 + 1),h,rfl⟩
 refine WA_exit ?_
 refine Qgd hT 1 [54] [(54,vs 18 0 s_int l3)] ?_
 refine WO_weak (wF 18 0 (rb 0 s_int l3) [(54,po s_int l3)] [(7,cb 0 33 1 (po s_int l3))] ⟨rfl,.hit true,trivial⟩ ⟨rfl,.inr ⟨rfl,rfl,.hit true,trivial⟩,trivial⟩) ?_
 obtain ⟨r14,hr14,h⟩:=bsome h
 refine Pt' en22 (Clip_int_ok hr14) ?_
 refine Szd hT 2 [4,5] [(4,.ps .fopt (s_int.F r14)),(5,vi 0)] ?_
 obtain rfl:=Option.some.inj h
 exact rK [4,5] [] ⟨[(4,.ps .fopt (s_int.F r14)),(5,vi 0)],[],1⟩ ⟨by kernel_rfl,rfl⟩
theorem law25_known_ok {n : Nat} {r : Bool} (h : law25_known n = some r) : PT Try.prog 9 [] (vb r):=by
 unfold law25_known at h
 refine PT_bodyA hT Try.func9 rfl (by kernel_rfl) fun bad w=>?_
 refine Qz hT 1 [] ⟨[],[],0⟩ ?_
 refine WA_seq ?_
 refine WA_region ?_
 obtain ⟨r1,hr1,h⟩:=bsome h
 refine Pt' en4 (law25_read_ok hr1) ?_
 refine Sg hT 2 [4,5,6] ⟨[(4,eProg r1),(5,vs 5 0 s_string [k_x]),(6,vs 6 1 s_string [k_y])],[(6,⟨1,9,1,false,false,s_string.F [k_y]⟩),(5,⟨0,9,1,false,false,s_string.F [k_x]⟩)],2⟩ ?_
 refine WO_weak (wF 5 0 ⟨0,9,1,false,false,s_string.F [k_x]⟩ [(4,eProg r1),(5,po s_string [k_x]),(6,vs 6 1 s_string [k_y])] [(6,⟨1,9,1,false,false,s_string.F [k_y]⟩)] ⟨rfl,.keep _,rfl,.hit true,rfl,.keep _,trivial⟩ ⟨rfl,.inl rfl,trivial⟩) ?_
 refine WO_weak (wF 6 1 ⟨1,9,1,false,false,s_string.F [k_y]⟩ [(4,eProg r1),(5,po s_string [k_x]),(6,po s_string [k_y])] [] ⟨rfl,.keep _,rfl,.keep _,rfl,.hit true,trivial⟩ trivial) ?_
 refine Sg hT 1 [4,7] ⟨[(4,eProg r1),(7,vs 7 2 s_Lstring [[k_x],[k_y]])],[(7,⟨2,49,1,false,false,s_Lstring.F [[k_x],[k_y]]⟩)],3⟩ ?_
 refine WO_weak (wF 7 2 ⟨2,49,1,false,false,s_Lstring.F [[k_x],[k_y]]⟩ [(4,eProg r1),(7,po s_Lstring [[k_x],[k_y]])] [] ⟨rfl,.keep _,rfl,.hit true,trivial⟩ trivial) ?_
 obtain ⟨r2,hr2,h⟩:=bsome h
 refine Pt' en8 (rank_Order_ok hr2) ?_
 refine Sz hT 5 [1,2] ⟨[(1,.ps .fopt (s_int.F r2.1)),(2,vi r2.2)],[],3⟩ ?_
 refine WA_seq ?_
 obtain ⟨J4,hJ4,h⟩:=jsome h
 refine WA_join (fun s=>∃ (b3 : Bool),J4 b3 = some r ∧ s = ⟨[(0,vb b3)],[],1⟩) ?_ ?_
 ·refine Rgd hT 3 [1,13] [(13,vb (r2.2 == 0))] ?_
  cases hb : ((r2.2 == 0) : Bool)
  ·replace h:=cfalse hb h
   refine Sg hT 17 [0] ⟨[(0,vb false)],[],3⟩ ?_
   exact oK [0] [] ⟨false,h,rfl⟩
  replace h:=ctrue hb h
  refine Sgd hT 1 [1,13,14] [(14,.ps .fopt (s_int.F r2.1))] ?_
  refine One' hT rfl (v_len s_int .fopt r2.1) ?_
  refine Sgd hT 3 [1,18] [(18,vb ((ln r2.1) == 2))] ?_
  cases hb : (((ln r2.1) == 2) : Bool)
  ·replace h:=cfalse hb h
   refine Sg hT 12 [0] ⟨[(0,vb false)],[],3⟩ ?_
   exact oK [0] [] ⟨false,h,rfl⟩
  replace h:=ctrue hb h
  refine Sgd hT 1 [1,18,19] [(19,.ps .fopt (s_int.F r2.1))] ?_
  obtain ⟨x5,hx5,h⟩:=bsome h
  refine One' hT rfl (v_index s_int .fopt r2.1 .i64 0 hx5) ?_
  refine Sgd hT 4 [1,24] [(24,vb (x5 == 0))] ?_
  cases hb : ((x5 == 0) : Bool)
  ·replace h:=cfalse hb h
   refine Sg hT 6 [0] ⟨[(0,vb false)],[],3⟩ ?_
   exact oK [0] [] ⟨false,h,rfl⟩
  replace h:=ctrue hb h
  refine Sg hT 1 [24,25] ⟨[(24,vb true),(25,.ps .fopt (s_int.F r2.1))],[],3⟩ ?_
  obtain ⟨x6,hx6,h⟩:=bsome h
  refine One' hT rfl (v_index s_int .fopt r2.1 .i64 1 hx6) ?_
  refine Sg hT 4 [0] ⟨[(0,vb (x6 == 1))],[],3⟩ ?_
  exact oK [0] [] ⟨(x6 == 1),h,rfl⟩
 subst hJ4
 rintro s ⟨b3,h,rfl⟩
 obtain rfl:=Option.some.inj h
 exact rK [0] [] ⟨[(0,vb b3)],[],1⟩ ⟨by kernel_rfl,rfl⟩
theorem law25_RankRises_ok {n : Nat} {a0 : Int} {a1 : List Act} {a2 : List Act} {a3 : List Act} {a4 : Int} {r : Bool} (h : law25_RankRises n a0 a1 a2 a3 a4 = some r) : PT Try.prog 3 [vi a0,po s_Act a1,po s_Act a2,po s_Act a3,vi a4] (vb r):=by
 unfold law25_RankRises at h
 refine PT_bodyA hT Try.func3 rfl (by kernel_rfl) fun bad w=>?_
 refine Qzd hT 1 [0,1,2,3,4] [] ?_
 refine Qg hT 4 [4,26,27,28,29] ⟨[(4,vi a4),(26,vi a0),(27,po s_Act a1),(28,po s_Act a2),(29,po s_Act a3)],[],0⟩ ?_
 obtain ⟨r1,hr1,h⟩:=bsome h
 refine Pt' en5 (hand_Good_ok hr1) ?_
 refine Sg hT 0 [4,30] ⟨[(4,vi a4),(30,vw r1)],[],0⟩ ?_
 obtain ⟨r2,hr2,h⟩:=bsome h
 refine Pt' en4 (law25_read_ok hr2) ?_
 refine Sz hT 2 [4,11] ⟨[(4,vi a4),(11,bx 11 0)],[(11,cb 0 26 2 (eProg r2))],1⟩ ?_
 refine Qgd hT 1 [11,32] [(32,vi a4)] ?_
 obtain ⟨r3,hr3,h⟩:=bsome h
 refine Og [] [(100,rb 1 s_Lstring r3)] [vi a4] [vi a4] [] [(100,33,1)] [(33,rb 1 s_Lstring r3)] (vs 100 1 s_Lstring r3) (vs 33 1 s_Lstring r3) 2 en6 (law25_groups_ok hr3) ?_
 refine Sz hT 1 [11,12] ⟨[(11,bx 11 0),(12,vs 33 1 s_Lstring r3)],[(33,rb 1 s_Lstring r3),(11,cb 0 26 2 (eProg r2))],2⟩ ?_
 refine Qgd hT 2 [11,12,34,35] [(34,eProg r2),(35,vs 33 1 s_Lstring r3)] ?_
 refine WO_weak (wF 33 1 (rb 1 s_Lstring r3) [(11,bx 11 0),(12,po s_Lstring r3),(34,eProg r2),(35,po s_Lstring r3)] [(11,cb 0 26 2 (eProg r2))] ⟨rfl,.keep _,rfl,.hit true,rfl,.keep _,rfl,.hit true,trivial⟩ ⟨rfl,.inl rfl,trivial⟩) ?_
 obtain ⟨r4,hr4,h⟩:=bsome h
 refine Pt' en7 (rank_Inside_ok hr4) ?_
 refine Szd hT 1 [11,12,13] [(13,.ps .fopt (s_Arr2_i64.F r4))] ?_
 refine Qgd hT 2 [12,13,38,39] [(38,eProg r2),(39,po s_Lstring r3)] ?_
 obtain ⟨r5,hr5,h⟩:=bsome h
 refine Pt' en8 (rank_Order_ok hr5) ?_
 refine Szd hT 5 [12,13,14,15] [(14,.ps .fopt (s_int.F r5.1)),(15,vi r5.2)] ?_
 refine WA_seq ?_
 refine WA_seq ?_
 refine WA_region ?_
 obtain ⟨r6,hr6,h⟩:=bsome h
 refine Pt' en9 (law25_known_ok hr6) ?_
 refine Szd hT 1 [12,13,14,15,44] [(44,vb (!r6))] ?_
 refine Ci h (fun h=>?_) fun h=>?_
 ·refine Qzd hT 1 [10] [(10,vb false)] ?_
  obtain rfl:=Option.some.inj h
  exact rK [10] [] ⟨[(10,vb false)],[],1⟩ ⟨by kernel_rfl,rfl⟩
 refine WA_skip ?_
 refine WA_seq ?_
 refine Qzd hT 2 [12,13,14,15,46] [(46,vb (r5.2 == 0))] ?_
 refine Ci h (fun h=>?_) fun h=>?_
 ·refine WA_seq ?_
  refine Qgd hT 1 [12,13,14,47] [(47,.ps .fopt (s_int.F r5.1))] ?_
  refine One' hT rfl (v_len s_int .fopt r5.1) ?_
  refine Sg hT 1 [12,13,14,48,49] ⟨[(12,po s_Lstring r3),(13,.ps .fopt (s_Arr2_i64.F r4)),(14,.ps .fopt (s_int.F r5.1)),(48,vi (ln r5.1)),(49,po s_Lstring r3)],[(11,cb 0 26 2 (eProg r2))],2⟩ ?_
  refine One' hT rfl (v_len s_Lstring .opt r3) ?_
  refine Szd hT 1 [12,13,14,51] [(51,vb ((ln r5.1) != (ln r3)))] ?_
  refine Ci h (fun h=>?_) fun h=>?_
  ·refine Qzd hT 1 [10] [(10,vb false)] ?_
   obtain rfl:=Option.some.inj h
   exact rK [10] [] ⟨[(10,vb false)],[],1⟩ ⟨by kernel_rfl,rfl⟩
  refine WA_skip ?_
  refine Qgd hT 1 [12,13,14,52] [(52,po s_Lstring r3)] ?_
  refine One' hT rfl (v_len s_Lstring .opt r3) ?_
  refine Sgd hT 0 [12,13,14,53] [(53,vi (ln r3))] ?_
  obtain ⟨g7,h⟩:=gsome h
  refine One' hT rfl (ev_make s_bool (ln r3) false g7 (by kernel_rfl) (by kernel_rfl) rfl) ?_
  refine Szh hT 1 [12,13,14,16] [(16,vs 54 2 s_bool (List.replicate (ln r3).toNat (false : Bool)))] [(54,⟨2,4,1,false,false,s_bool.F (List.replicate (ln r3).toNat (false : Bool))⟩),(11,cb 0 26 2 (eProg r2))] 3 ?_
  refine WA_seq ?_
  refine Qgd hT 1 [12,13,14,16,55] [(55,.ps .fopt (s_int.F r5.1))] ?_
  refine One' hT rfl (v_len s_int .fopt r5.1) ?_
  refine Szd hT 1 [12,13,14,16,55,56,57] [(56,vi (ln r5.1)),(57,vi 0)] ?_
  refine WA_block ?_
  refine lK [12,13,14,16,55,56,57] [(54,54,0)] (fun k s=>∃ q,q ≤ k ∧ q ≤ n ∧ ∃ (l8 : List Bool),∃ (i9 : Int),law25_RankRises_L0 q a0 a1 a2 a3 a4 r1 r2 r3 r4 r5 r6 l8 i9 = some r ∧ s = ⟨[(12,po s_Lstring r3),(13,.ps .fopt (s_Arr2_i64.F r4)),(14,.ps .fopt (s_int.F r5.1)),(16,vs 54 0 s_bool l8),(55,.ps .fopt (s_int.F r5.1)),(56,vi (ln r5.1)),(57,vi i9)],[(54,⟨0,4,1,false,false,s_bool.F l8⟩)],1⟩) n ⟨n,Nat.le_refl _,Nat.le_refl _,List.replicate (ln r3).toNat (false : Bool),0,h,rfl⟩ (by rintro s ⟨q,hq,_,l8,i9,h,_⟩; obtain rfl:=Nat.le_zero.1 hq; rw [law25_RankRises_L0] at h; cases h) ?_
  clear h
  rintro k1 s ⟨q1,hk1,hn1,l8,i9,h,rfl⟩
  rcases q1 with _ | q1
  ·rw [law25_RankRises_L0] at h; cases h
  rw [law25_RankRises_L0] at h
  refine Qz hT 1 [12,13,14,16,55,56,57,58] ⟨[(12,po s_Lstring r3),(13,.ps .fopt (s_Arr2_i64.F r4)),(14,.ps .fopt (s_int.F r5.1)),(16,vs 54 0 s_bool l8),(55,.ps .fopt (s_int.F r5.1)),(56,vi (ln r5.1)),(57,vi i9),(58,vb (decide (i9 < (ln r5.1))))],[(54,⟨0,4,1,false,false,s_bool.F l8⟩)],1⟩ ?_
  refine WA_seq ?_
  refine Ci h (fun h=>?_) fun h=>?_
  ·refine WA_skip ?_
   refine WA_seq ?_
   refine WA_block ?_
   refine Qgd hT 0 [12,13,14,16,55,56,57] [] ?_
   obtain ⟨x10,hx10,h⟩:=bsome h
   refine One' hT rfl (v_index s_int .fopt r5.1 .i64 i9 hx10) ?_
   refine Szd hT 2 [12,13,14,16,18,55,56,57] [(18,vi x10)] ?_
   refine WA_seq ?_
   refine WA_seq ?_
   obtain ⟨J12,hJ12,h⟩:=jsome h
   refine WA_join (fun s=>∃ (b11 : Bool),J12 b11 = some r ∧ s = ⟨[(12,po s_Lstring r3),(13,.ps .fopt (s_Arr2_i64.F r4)),(14,.ps .fopt (s_int.F r5.1)),(16,vs 54 0 s_bool l8),(18,vi x10),(55,.ps .fopt (s_int.F r5.1)),(56,vi (ln r5.1)),(57,vi i9),(74,vb b11)],[(54,⟨0,4,1,false,false,s_bool.F l8⟩)],1⟩) ?_ ?_
   ·refine Rgd hT 3 [12,13,14,16,18,55,56,57,63] [(63,vb (decide (x10 < 0)))] ?_
    cases hb : (decide (x10 < 0) : Bool)
    ·replace h:=cfalse hb h
     refine Sgd hT 2 [12,13,14,16,18,55,56,57,63,64,65] [(64,vi x10),(65,po s_Lstring r3)] ?_
     refine One' hT rfl (v_len s_Lstring .opt r3) ?_
     refine Sgd hT 3 [12,13,14,16,18,55,56,57,69] [(69,vb (decide (x10 ≥ (ln r3))))] ?_
     cases hb : (decide (x10 ≥ (ln r3)) : Bool)
     ·replace h:=cfalse hb h
      refine Sgd hT 2 [12,13,14,16,18,55,56,57,69,70,71] [(70,vs 54 0 s_bool l8),(71,vi x10)] ?_
      obtain ⟨x13,hx13,h⟩:=bsome h
      refine One' hT rfl (v_index_own s_bool 54 0 true ⟨0,4,1,false,false,s_bool.F l8⟩ l8 .i64 x10 hx13) ?_
      refine Sgd hT 0 [12,13,14,16,18,55,56,57,69,72] [(72,.box 54 0 x10.toNat 0)] ?_
      refine One' hT rfl (v_load_row s_bool 54 0 ⟨0,4,1,false,false,s_bool.F l8⟩ l8 x10.toNat 0 x13 (vb x13) (idx_some hx13).2) ?_
      refine Sgd hT 1 [12,13,14,16,18,55,56,57,74] [(74,vb x13)] ?_
      exact oK [12,13,14,16,18,55,56,57,74] [(54,54,0)] ⟨x13,h,rfl⟩
     replace h:=ctrue hb h
     refine Sgd hT 5 [12,13,14,16,18,55,56,57,74] [(74,vb true)] ?_
     exact oK [12,13,14,16,18,55,56,57,74] [(54,54,0)] ⟨true,h,rfl⟩
    replace h:=ctrue hb h
    refine Sg hT 11 [12,13,14,16,18,55,56,57,74] ⟨[(12,po s_Lstring r3),(13,.ps .fopt (s_Arr2_i64.F r4)),(14,.ps .fopt (s_int.F r5.1)),(16,vs 54 0 s_bool l8),(18,vi x10),(55,.ps .fopt (s_int.F r5.1)),(56,vi (ln r5.1)),(57,vi i9),(74,vb true)],[(54,⟨0,4,1,false,false,s_bool.F l8⟩)],1⟩ ?_
    exact oK [12,13,14,16,18,55,56,57,74] [(54,54,0)] ⟨true,h,rfl⟩
   subst hJ12
   rintro s ⟨b11,h,rfl⟩
   skip
   refine Ci h (fun h=>?_) fun h=>?_
   ·refine Qzd hT 1 [10] [(10,vb false)] ?_
    obtain rfl:=Option.some.inj h
    exact rK [10] [] ⟨[(10,vb false)],[],1⟩ ⟨by kernel_rfl,rfl⟩
   refine WA_skip ?_
   refine Rgd hT 2 [12,13,14,16,55,56,57,75,76] [(75,vs 54 0 s_bool l8),(76,vi x10)] ?_
   obtain ⟨x14,hx14,h⟩:=bsome h
   refine One' hT rfl (v_index_own s_bool 54 0 true ⟨0,4,1,false,false,s_bool.F l8⟩ l8 .i64 x10 hx14) ?_
   refine Sgd hT 0 [12,13,14,16,55,56,57,77] [(77,.box 54 0 x10.toNat 0)] ?_
   refine One' hT rfl (v_storeRow s_bool 54 0 ⟨0,4,1,false,false,s_bool.F l8⟩ l8 x10.toNat 0 x14 true (idx_some hx14).2) ?_
   refine oW [12,13,14,16,55,56,57] ⟨[(12,po s_Lstring r3),(13,.ps .fopt (s_Arr2_i64.F r4)),(14,.ps .fopt (s_int.F r5.1)),(16,vs 54 0 s_bool l8),(55,.ps .fopt (s_int.F r5.1)),(56,vi (ln r5.1)),(57,vi i9)],[(54,⟨0,4,1,false,false,s_bool.F (l8.set x10.toNat true)⟩)],1⟩ ?_
   refine WO_weak (wL [(12,po s_Lstring r3),(13,.ps .fopt (s_Arr2_i64.F r4)),(14,.ps .fopt (s_int.F r5.1)),(16,vs 54 0 s_bool (l8.set x10.toNat true)),(55,.ps .fopt (s_int.F r5.1)),(56,vi (ln r5.1)),(57,vi i9)] [(54,⟨0,4,1,false,false,s_bool.F (l8.set x10.toNat true)⟩)] ⟨VLf.refl _,VLf.refl _,VLf.refl _,(VLf.slen (by simp [TE.len,lcopy_length,rcopy_length,clr_length])),VLf.refl _,VLf.refl _,VLf.refl _,trivial⟩ (HLe.refl _)) ?_
   refine Ze ?_
   refine Rgd hT 2 [12,13,14,16,55,56,57] [(57,vi (wr (i9 + 1)))] ?_
   exact oK [12,13,14,16,55,56,57] [(54,54,0)] ⟨_,by omega,by omega,l8.set x10.toNat true,wr (i9 + 1),h,rfl⟩
  refine WA_exit ?_
  refine WA_seq ?_
  refine Qgd hT 1 [14,79] [(79,.ps .fopt (s_Arr2_i64.F r4))] ?_
  refine One' hT rfl (v_len s_Arr2_i64 .fopt r4) ?_
  refine Szd hT 1 [14,79,80,81] [(80,vi (ln r4)),(81,vi 0)] ?_
  refine WA_block ?_
  refine lK [14,79,80,81] [] (fun k s=>∃ q,q ≤ k ∧ q ≤ q1 ∧ ∃ (i15 : Int),law25_RankRises_L1 q a0 a1 a2 a3 a4 r1 r2 r3 r4 r5 r6 l8 i9 i15 = some r ∧ s = ⟨[(14,.ps .fopt (s_int.F r5.1)),(79,.ps .fopt (s_Arr2_i64.F r4)),(80,vi (ln r4)),(81,vi i15)],[],1⟩) q1 ⟨q1,Nat.le_refl _,Nat.le_refl _,0,h,rfl⟩ (by rintro s ⟨q,hq,_,i15,h,_⟩; obtain rfl:=Nat.le_zero.1 hq; rw [law25_RankRises_L1] at h; cases h) ?_
  clear h
  rintro k2 s ⟨q2,hk2,hn2,i15,h,rfl⟩
  rcases q2 with _ | q2
  ·rw [law25_RankRises_L1] at h; cases h
  rw [law25_RankRises_L1] at h
  refine Qzd hT 1 [14,79,80,81,82] [(82,vb (decide (i15 < (ln r4))))] ?_
  refine WA_seq ?_
  refine Ci h (fun h=>?_) fun h=>?_
  ·refine WA_skip ?_
   refine WA_seq ?_
   refine WA_block ?_
   refine Qg hT 0 [14,79,80,81] ⟨[(14,.ps .fopt (s_int.F r5.1)),(79,.ps .fopt (s_Arr2_i64.F r4)),(80,vi (ln r4)),(81,vi i15)],[],1⟩ ?_
   obtain ⟨x16,hx16,h⟩:=bsome h
   refine One' hT rfl (v_index s_Arr2_i64 .fopt r4 .i64 i15 hx16) ?_
   refine Szh hT 3 [14,20,79,80,81] [(20,bx 20 1)] [(20,cb 1 39 2 (eArr2_i64 x16))] 2 ?_
   refine WA_seq ?_
   refine WA_drawW hT hM (by kernel_rfl) ?_
   refine Ds 3 [(87,vi x16.e0),(86,bx 20 1),(85,.ps .fopt (s_int.F r5.1))] [] [(1,[20]),(2,[20])] ?_
   obtain ⟨x17,hx17,h⟩:=bsome h
   refine Dl rfl (v_index s_int .fopt r5.1 .i64 x16.e0 hx17) ?_
   refine Dt (.ref (e_i64 x17) 0) ?_
   refine Ds 4 [(92,vi x16.e1),(91,.box 20 1 0 1),(90,.ps .fopt (s_int.F r5.1)),(89,vi x17)] [] [(6,[20]),(7,[20])] ?_
   obtain ⟨x18,hx18,h⟩:=bsome h
   refine Dl rfl (v_index s_int .fopt r5.1 .i64 x16.e1 hx18) ?_
   refine Dt (.ref (e_i64 x18) 0) ?_
   refine Ds 2 [(95,vb (decide (x17 ≥ x18))),(94,vi x18)] [] [] ?_
   refine De ?_
   refine Wk_done ?_
   refine Ci h (fun h=>?_) fun h=>?_
   ·refine Qzd hT 1 [10] [(10,vb false)] ?_
    obtain rfl:=Option.some.inj h
    exact rK [10] [] ⟨[(10,vb false)],[],1⟩ ⟨by kernel_rfl,rfl⟩
   refine WA_skip ?_
   refine Rgd hT 2 [14,79,80,81] [(81,vi (wr (i15 + 1)))] ?_
   exact oK [14,79,80,81] [] ⟨_,by omega,by omega,wr (i15 + 1),h,rfl⟩
  refine WA_exit ?_
  refine Qz hT 1 [10] ⟨[(10,vb true)],[],1⟩ ?_
  obtain rfl:=Option.some.inj h
  exact rK [10] [] ⟨[(10,vb true)],[],1⟩ ⟨by kernel_rfl,rfl⟩
 refine WA_skip ?_
 exact rises_ok rfl h (by kernel_rfl) (by kernel_rfl) (by kernel_rfl) (by kernel_rfl) (by kernel_rfl) (fun h1 c1=>⟨by kernel_rfl,rfl⟩)
end Go.Su.Ytkmcnajbhclimaa
