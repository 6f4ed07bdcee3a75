/-
  The functions of the program compute that.
-/
import Derived.Test.YtcadbebhhnggdaaGreatZRGPb
namespace Go.Su.YtcadbebhhnggdaaGreat
open Go.Mx Go.Proofs
set_option maxRecDepth 100000
set_option maxHeartbeats 20000000
set_option linter.unusedVariables false
set_option linter.unusedSimpArgs false
def tree_copyExpr_spec (n : Nat) : Prop:=(∀ {a0 : Expr} {r : Expr},tree_copyExpr n a0 = some r → PT Tryz.prog 93 [eExpr a0] (eExpr r))
theorem tree_copyExpr_step (n : Nat) (ih : ∀ m,m < n → tree_copyExpr_spec m) : ∀ {a0 : Expr} {r : Expr},tree_copyExpr n a0 = some r → PT Tryz.prog 93 [eExpr a0] (eExpr r):=by
 intro a0 r h
 rcases n with _ | n
 ·rw [tree_copyExpr] at h; cases h
 rw [tree_copyExpr] at h
 refine PT_bodyA hT Tryz.func93 rfl (by kernel_rfl) fun bad w=>?_
 refine Qz hT 2 [1,2] ⟨[(1,bx 1 0),(2,bx 2 1)],[(2,cb 1 92 4 (.agg [vi 0,vi 0,vw b0,vn])),(1,cb 0 92 4 (eExpr a0))],2⟩ ?_
 refine Qgd hT 2 [1,2,6] [(6,po s_Expr a0.Of)] ?_
 obtain ⟨r1,hr1,h⟩:=bsome h
 refine Og [] [(100,rb 1 s_Expr r1)] [po s_Expr a0.Of] [po s_Expr a0.Of] [] [(100,7,2)] [(7,rb 2 s_Expr r1)] (vs 100 1 s_Expr r1) (vs 7 2 s_Expr r1) 3 en102 (Clone_Expr_ok hr1) ?_
 refine Sgh hT 0 [1,2,7] [(7,vs 7 2 s_Expr r1)] [(7,rb 2 s_Expr r1),(2,cb 1 92 4 (.agg [vi 0,vi 0,vw b0,vn])),(1,cb 0 92 4 (eExpr a0))] 3 ?_
 obtain ⟨r2,hr2,h⟩:=bsome h
 refine Og [(0,rb 0 s_Expr r1)] [(100,rb 1 s_Expr r2)] [vs 7 2 s_Expr r1] [vs 0 0 s_Expr r1] [(7,0,0)] [(100,8,3)] [(8,rb 3 s_Expr r2)] (.sl 100 1 0 (s_Expr.F r2).length false) (.sl 8 3 0 (s_Expr.F r2).length false) 4 en101 (Clip_Expr_o_ok hr2) ?_
 refine Szh hT 2 [1,2] [] [(1,cb 0 92 4 (.agg [vi a0.Kind,vi a0.N,vw a0.Name,.sl 8 3 0 (s_Expr.F r2).length false])),(8,rb 3 s_Expr r2),(2,cb 1 92 4 (.agg [vi 0,vi 0,vw b0,vn]))] 4 ?_
 refine WA_seq ?_
 refine Qgd hT 2 [1,2,11] [(11,.sl 8 3 0 (s_Expr.F r2).length false)] ?_
 refine One' hT rfl (v_len_own s_Expr 8 3 false (rb 3 s_Expr r2) r2) ?_
 refine Szd hT 1 [1,2,11,12,13] [(12,vi (ln r2)),(13,vi 0)] ?_
 refine WA_block ?_
 refine lK [1,2,11,12,13] [(1,1,0),(2,2,0),(8,8,0)] (fun k s=>∃ q,q ≤ k ∧ q ≤ n ∧ ∃ (l4 : List Expr),∃ (w5 : ByteArray),∃ (i6 : Int),tree_copyExpr_L0 q a0 r1 r2 l4 w5 i6 = some r ∧ s = ⟨[(1,bx 1 0),(2,bx 2 0),(11,.sl 8 0 0 (s_Expr.F l4).length false),(12,vi (ln r2)),(13,vi i6)],[(1,cb 0 92 4 (.agg [vi a0.Kind,vi a0.N,vw a0.Name,.sl 8 0 0 (s_Expr.F l4).length false])),(2,cb 0 92 4 (.agg [vi 0,vi 0,vw w5,vn])),(8,rb 0 s_Expr l4)],1⟩) n ⟨n,Nat.le_refl _,Nat.le_refl _,r2,b0,0,h,rfl⟩ (by rintro s ⟨q,hq,_,l4,w5,i6,h,_⟩; obtain rfl:=Nat.le_zero.1 hq; rw [tree_copyExpr_L0] at h; cases h) ?_
 clear h
 rintro k1 s ⟨q1,hk1,hn1,l4,w5,i6,h,rfl⟩
 rcases q1 with _ | q1
 ·rw [tree_copyExpr_L0] at h; cases h
 rw [tree_copyExpr_L0] at h
 refine Qzd hT 1 [1,2,11,12,13,14] [(14,vb (decide (i6 < (ln r2))))] ?_
 refine WA_seq ?_
 refine Ci h (fun h=>?_) fun h=>?_
 ·refine WA_skip ?_
  refine WA_seq ?_
  refine WA_block ?_
  refine Qgd hT 1 [1,2,11,12,13,15] [(15,vi i6)] ?_
  obtain ⟨x7,hx7,h⟩:=bsome h
  refine One' hT rfl (v_index_own s_Expr 8 0 false (rb 0 s_Expr l4) l4 .i64 i6 hx7) ?_
  refine Sg hT 0 [1,2,11,12,13,15,16] ⟨[(1,bx 1 0),(2,bx 2 0),(11,.sl 8 0 0 (s_Expr.F l4).length false),(12,vi (ln r2)),(13,vi i6),(15,vi i6),(16,.box 8 0 i6.toNat 0)],[(1,cb 0 92 4 (.agg [vi a0.Kind,vi a0.N,vw a0.Name,.sl 8 0 0 (s_Expr.F l4).length false])),(2,cb 0 92 4 (.agg [vi 0,vi 0,vw w5,vn])),(8,rb 0 s_Expr l4)],1⟩ ?_
  refine One' hT rfl (v_load_row s_Expr 8 0 (rb 0 s_Expr l4) l4 i6.toNat 0 x7 (eExpr x7) (idx_some hx7).2) ?_
  refine Szh hT 3 [1,2,3,4,11,12,13] [(3,vi i6),(4,bx 4 1)] [(4,cb 1 92 4 (eExpr x7)),(1,cb 0 92 4 (.agg [vi a0.Kind,vi a0.N,vw a0.Name,.sl 8 0 0 (s_Expr.F l4).length false])),(2,cb 0 92 4 (.agg [vi 0,vi 0,vw w5,vn])),(8,rb 0 s_Expr l4)] 2 ?_
  refine WA_drawW hT hM (by kernel_rfl) ?_
  refine Ds 4 [(21,eExpr x7),(20,vi i6),(19,.sl 8 0 0 (s_Expr.F l4).length false),(18,.box 1 0 0 3)] [] [(0,[1]),(1,[1]),(3,[4])] ?_
  obtain ⟨r8,hr8,h⟩:=bsome h
  refine Dp [eExpr x7] (eExpr r8) en93 ((ih _ (by omega)) hr8) ?_
  obtain ⟨x9,hx9,h⟩:=bsome h
  refine Dl rfl (v_index_own s_Expr 8 0 false (rb 0 s_Expr l4) l4 .i64 i6 hx9) ?_
  refine Dt (.box 8 0 i6.toNat 0) ?_
  refine Dw rfl (v_storeRow s_Expr 8 0 (rb 0 s_Expr l4) l4 i6.toNat 0 x9 r8 (idx_some hx9).2) ?_
  refine De ?_
  refine kW [1,2,11,12,13] ⟨[(1,bx 1 0),(2,bx 2 0),(11,.sl 8 0 0 (s_Expr.F l4).length false),(12,vi (ln r2)),(13,vi i6)],[(8,rb 0 s_Expr (l4.set i6.toNat r8)),(4,cb 1 92 4 (eExpr x7)),(1,cb 0 92 4 (.agg [vi a0.Kind,vi a0.N,vw a0.Name,.sl 8 0 0 (s_Expr.F l4).length false])),(2,cb 0 92 4 (.agg [vi 0,vi 0,vw w5,vn]))],2⟩ ?_
  refine Wk_step (wL [(1,bx 1 0),(2,bx 2 0),(11,.sl 8 0 0 (s_Expr.F (l4.set i6.toNat r8)).length false),(12,vi (ln r2)),(13,vi i6)] [(8,rb 0 s_Expr (l4.set i6.toNat r8)),(4,cb 1 92 4 (eExpr x7)),(1,cb 0 92 4 (.agg [vi a0.Kind,vi a0.N,vw a0.Name,.sl 8 0 0 (s_Expr.F (l4.set i6.toNat r8)).length false])),(2,cb 0 92 4 (.agg [vi 0,vi 0,vw w5,vn]))] ⟨VLf.refl _,VLf.refl _,(VLf.slen (by simp [TE.len,lcopy_length,rcopy_length,clr_length])),VLf.refl _,VLf.refl _,trivial⟩ ⟨rfl,.inl rfl,rfl,.inl rfl,rfl,.inr (.inl ⟨rfl,rfl,CLe.agg ⟨VLf.refl _,VLf.refl _,VLf.refl _,(VLf.slen (by simp [TE.len,lcopy_length,rcopy_length,clr_length])),trivial⟩,trivial⟩),rfl,.inl rfl,trivial⟩) ?_
  refine Wk_done ?_
  refine Rgd hT 2 [1,2,11,12,13] [(13,vi (wr (i6 + 1)))] ?_
  exact oK [1,2,11,12,13] [(1,1,0),(2,2,0),(8,8,0)] ⟨_,by omega,by omega,l4.set i6.toNat r8,w5,wr (i6 + 1),h,rfl⟩
 refine WA_exit ?_
 refine Qz hT 2 [2] ⟨[(2,bx 2 0)],[(2,cb 0 92 4 (.agg [vi a0.Kind,vi a0.N,vw a0.Name,.sl 8 0 0 (s_Expr.F l4).length false])),(1,cb 0 92 4 (.agg [vi a0.Kind,vi a0.N,vw a0.Name,.sl 8 0 0 (s_Expr.F l4).length false])),(8,rb 0 s_Expr l4)],1⟩ ?_
 refine aW [2] ⟨[(2,bx 2 0)],[(2,cb 0 92 4 (.agg [vi a0.Kind,vi a0.N,vw a0.Name,.sl 8 0 0 (s_Expr.F l4).length false])),(1,cb 0 92 4 (.agg [vi a0.Kind,vi a0.N,vw a0.Name,.sl 8 0 0 (s_Expr.F l4).length false])),(8,rb 0 s_Expr l4)],1⟩ ?_
 refine WA_weak (wF 8 0 (rb 0 s_Expr l4) [(2,bx 2 0)] [(2,cb 0 92 4 (.agg [vi a0.Kind,vi a0.N,vw a0.Name,po s_Expr l4])),(1,cb 0 92 4 (.agg [vi a0.Kind,vi a0.N,vw a0.Name,po s_Expr l4]))] ⟨rfl,.keep _,trivial⟩ ⟨rfl,.inr ⟨rfl,rfl,.aggs ⟨.keep _,.keep _,.keep _,.hit false,trivial⟩,trivial⟩,rfl,.inr ⟨rfl,rfl,.aggs ⟨.keep _,.keep _,.keep _,.hit false,trivial⟩,trivial⟩,trivial⟩) ?_
 refine WA_weak (wL [(2,bx 2 0)] [(2,cb 0 92 4 (eExpr (Expr.mk a0.Kind a0.N a0.Name l4))),(1,cb 0 92 4 (.agg [vi a0.Kind,vi a0.N,vw a0.Name,po s_Expr l4]))] ⟨VLf.refl _,trivial⟩ ⟨rfl,.inr (.inl ⟨rfl,rfl,CLe.agg ⟨VLf.refl _,VLf.refl _,VLf.refl _,VLf.refl _,trivial⟩,trivial⟩),rfl,.inl rfl,trivial⟩) ?_
 obtain rfl:=Option.some.inj h
 exact rR [(2,1000,0)] ⟨[(2,bx 1000 0)],[(1000,cb 0 92 4 (eExpr (Expr.mk a0.Kind a0.N a0.Name l4)))],1⟩ ⟨by kernel_rfl,rfl⟩
theorem tree_copyExpr_all (n : Nat) : tree_copyExpr_spec n:=by
 induction n using Nat.strongRecOn with
 | _ n ih=>exact tree_copyExpr_step n ih
theorem tree_copyExpr_ok {n : Nat} {a0 : Expr} {r : Expr} (h : tree_copyExpr n a0 = some r) : PT Tryz.prog 93 [eExpr a0] (eExpr r):=(tree_copyExpr_all n) h
theorem Clone_Stmt_ok {n : Nat} {a0 : List Stmt} {r : List Stmt} (h : Clone_Stmt n a0 = some r) : GO Tryz.prog 103 [] [po s_Stmt a0] (vs 100 1 s_Stmt r) [(100,rb 1 s_Stmt r)]:=by
 unfold Clone_Stmt at h
 refine GO_bodyA hT Tryz.func103 rfl [] (by kernel_rfl) fun bad w m=>?_
 refine Qzd hT 1 [0] [] ?_
 refine WA_seq ?_
 refine Qgd hT 1 [0,3] [(3,po s_Stmt a0)] ?_
 refine WO_isnil' hT s_Stmt rfl (by kernel_rfl) .opt a0 rfl (by kernel_rfl) (by kernel_rfl) ?_
 intro b1 hnil
 cases b1
 ·clear hnil
  refine Szh hT 0 [0,4] [(4,vb false)] [] 1 ?_
  refine WA_cond false (by kernel_rfl) (fun hb=>by cases hb) (fun _=>?_)
  refine WA_skip ?_
  refine Qg hT 2 [5,6] ⟨[(5,vs 5 1 s_Stmt ([] : List Stmt)),(6,po s_Stmt a0)],[(5,⟨1,94,11,false,false,s_Stmt.F ([] : List Stmt)⟩)],2⟩ ?_
  obtain ⟨g2,h⟩:=gsome h
  refine Oa hT s_Stmt 5 1 false ([] : List Stmt) a0 (by kernel_rfl) g2 ?_
  refine Sz hT 1 [2] ⟨[(2,vs 7 2 s_Stmt (([] : List Stmt) ++ a0))],[(7,rb 2 s_Stmt (([] : List Stmt) ++ a0))],3⟩ ?_
  obtain rfl:=Option.some.inj h
  exact rK [2] [(7,100,1)] ⟨[(2,vs 100 1 s_Stmt (([] : List Stmt) ++ a0))],[(100,rb 1 s_Stmt (([] : List Stmt) ++ a0))],2⟩ ⟨by kernel_rfl,by kernel_rfl,rfl⟩
 ·replace h : some ([] : List Stmt) = some r:=by (have e:=hnil rfl; subst e; first | exact h | (obtain ⟨_,h⟩:=gsome h; simpa using h))
  clear hnil
  refine Szh hT 0 [0,4] [(4,vb true)] [] 1 ?_
  refine WA_cond true (by kernel_rfl) (fun _=>?_) (fun hb=>by cases hb)
  refine Qz hT 1 [2] ⟨[(2,vn)],[],1⟩ ?_
  refine aW [2] ⟨[(2,vn)],[],1⟩ ?_
  refine WA_weak (wO 2 5000 94 11) ?_
  obtain rfl:=Option.some.inj h
  exact rK [2] [(5000,100,1)] ⟨[(2,vs 100 1 s_Stmt ([] : List Stmt))],[(100,rb 1 s_Stmt ([] : List Stmt))],2⟩ ⟨by kernel_rfl,by kernel_rfl,rfl⟩
theorem Clip_Stmt_o_ok {n : Nat} {a0 : List Stmt} {r : List Stmt} (h : Clip_Stmt_o n a0 = some r) : GO Tryz.prog 72 [(0,rb 0 s_Stmt a0)] [vs 0 0 s_Stmt a0] (.sl 100 1 0 (s_Stmt.F r).length false) [(100,rb 1 s_Stmt r)]:=by
 unfold Clip_Stmt_o at h
 refine GO_bodyA hT Tryz.func72 rfl [] (by kernel_rfl) fun bad w m=>?_
 refine Qzd hT 1 [0] [] ?_
 refine Qgd hT 2 [0,3,4] [(3,vs 0 0 s_Stmt a0),(4,vs 0 0 s_Stmt a0)] ?_
 refine One' hT rfl (v_len_own s_Stmt 0 0 true (rb 0 s_Stmt a0) a0) ?_
 refine Sgd hT 1 [3,5,6] [(5,vi (ln a0)),(6,vs 0 0 s_Stmt a0)] ?_
 refine One' hT rfl (v_len_own s_Stmt 0 0 true (rb 0 s_Stmt a0) a0) ?_
 refine Sgd hT 0 [3,5,7] [(7,vi (ln a0))] ?_
 refine WO_clip' hT s_Stmt rfl (by kernel_rfl) 0 0 (s_Stmt.F a0).length true (rb 0 s_Stmt a0) rfl (by kernel_rfl) (by kernel_rfl) rfl (by rw [TE.len]; kernel_rfl) (by rw [TE.len]; kernel_rfl) (by kernel_rfl) ?_
 refine Sz hT 1 [2] ⟨[(2,.sl 0 0 0 (s_Stmt.F a0).length false)],[(0,rb 0 s_Stmt a0)],1⟩ ?_
 obtain rfl:=Option.some.inj h
 exact rK [2] [(0,100,1)] ⟨[(2,.sl 100 1 0 (s_Stmt.F a0).length false)],[(100,rb 1 s_Stmt a0)],2⟩ ⟨by kernel_rfl,by kernel_rfl,rfl⟩
def tree_copyBlock_spec (n : Nat) : Prop:=(∀ {a0 : List Stmt} {r : List Stmt},tree_copyBlock n a0 = some r → GO Tryz.prog 94 [] [po s_Stmt a0] (.sl 100 1 0 (s_Stmt.F r).length false) [(100,rb 1 s_Stmt r)]) ∧ (∀ {a0 : Stmt} {r : Stmt},tree_copyStmt n a0 = some r → PT Tryz.prog 71 [eStmt a0] (eStmt r))
theorem tree_copyBlock_step (n : Nat) (ih : ∀ m,m < n → tree_copyBlock_spec m) : ∀ {a0 : List Stmt} {r : List Stmt},tree_copyBlock n a0 = some r → GO Tryz.prog 94 [] [po s_Stmt a0] (.sl 100 1 0 (s_Stmt.F r).length false) [(100,rb 1 s_Stmt r)]:=by
 intro a0 r h
 rcases n with _ | n
 ·rw [tree_copyBlock] at h; cases h
 rw [tree_copyBlock] at h
 refine GO_bodyA hT Tryz.func94 rfl [] (by kernel_rfl) fun bad w m=>?_
 refine Qzd hT 1 [0] [] ?_
 refine Qg hT 1 [6] ⟨[(6,po s_Stmt a0)],[],1⟩ ?_
 obtain ⟨r1,hr1,h⟩:=bsome h
 refine Og [] [(100,rb 1 s_Stmt r1)] [po s_Stmt a0] [po s_Stmt a0] [] [(100,7,1)] [(7,rb 1 s_Stmt r1)] (vs 100 1 s_Stmt r1) (vs 7 1 s_Stmt r1) 2 en103 (Clone_Stmt_ok hr1) ?_
 refine Sg hT 0 [7] ⟨[(7,vs 7 1 s_Stmt r1)],[(7,rb 1 s_Stmt r1)],2⟩ ?_
 obtain ⟨r2,hr2,h⟩:=bsome h
 refine Og [(0,rb 0 s_Stmt r1)] [(100,rb 1 s_Stmt r2)] [vs 7 1 s_Stmt r1] [vs 0 0 s_Stmt r1] [(7,0,0)] [(100,8,2)] [(8,rb 2 s_Stmt r2)] (.sl 100 1 0 (s_Stmt.F r2).length false) (.sl 8 2 0 (s_Stmt.F r2).length false) 3 en72 (Clip_Stmt_o_ok hr2) ?_
 refine Sz hT 1 [3] ⟨[(3,.sl 8 2 0 (s_Stmt.F r2).length false)],[(8,rb 2 s_Stmt r2)],3⟩ ?_
 refine WA_seq ?_
 refine Qgd hT 1 [3,9] [(9,.sl 8 2 0 (s_Stmt.F r2).length false)] ?_
 refine One' hT rfl (v_len_own s_Stmt 8 2 false (rb 2 s_Stmt r2) r2) ?_
 refine Szd hT 1 [3,9,10,11] [(10,vi (ln r2)),(11,vi 0)] ?_
 refine WA_block ?_
 refine lK [3,9,10,11] [(8,8,1)] (fun k s=>∃ q,q ≤ k ∧ q ≤ n ∧ ∃ (l3 : List Stmt),∃ (i4 : Int),tree_copyBlock_L0 q a0 r1 r2 l3 i4 = some r ∧ s = ⟨[(3,.sl 8 1 0 (s_Stmt.F l3).length false),(9,.sl 8 1 0 (s_Stmt.F l3).length false),(10,vi (ln r2)),(11,vi i4)],[(8,rb 1 s_Stmt l3)],2⟩) n ⟨n,Nat.le_refl _,Nat.le_refl _,r2,0,h,rfl⟩ (by rintro s ⟨q,hq,_,l3,i4,h,_⟩; obtain rfl:=Nat.le_zero.1 hq; rw [tree_copyBlock_L0] at h; cases h) ?_
 clear h
 rintro k1 s ⟨q1,hk1,hn1,l3,i4,h,rfl⟩
 rcases q1 with _ | q1
 ·rw [tree_copyBlock_L0] at h; cases h
 rw [tree_copyBlock_L0] at h
 refine Qzd hT 1 [3,9,10,11,12] [(12,vb (decide (i4 < (ln r2))))] ?_
 refine WA_seq ?_
 refine Ci h (fun h=>?_) fun h=>?_
 ·refine WA_skip ?_
  refine WA_seq ?_
  refine WA_block ?_
  refine Qgd hT 1 [3,9,10,11,13] [(13,vi i4)] ?_
  obtain ⟨x5,hx5,h⟩:=bsome h
  refine One' hT rfl (v_index_own s_Stmt 8 1 false (rb 1 s_Stmt l3) l3 .i64 i4 hx5) ?_
  refine Sgd hT 0 [3,9,10,11,13,14] [(14,.box 8 1 i4.toNat 0)] ?_
  refine One' hT rfl (v_load_row s_Stmt 8 1 (rb 1 s_Stmt l3) l3 i4.toNat 0 x5 (eStmt x5) (idx_some hx5).2) ?_
  refine Szh hT 3 [3,4,5,9,10,11] [(4,vi i4),(5,bx 5 2)] [(5,cb 2 94 11 (eStmt x5)),(8,rb 1 s_Stmt l3)] 3 ?_
  refine Rgd hT 3 [3,9,10,11,16,17,18] [(16,.sl 8 1 0 (s_Stmt.F l3).length false),(17,vi i4),(18,eStmt x5)] ?_
  obtain ⟨r6,hr6,h⟩:=bsome h
  refine Pt' en71 ((ih _ (by omega)).2 hr6) ?_
  refine Sgd hT 0 [3,9,10,11,16,17,19] [(19,eStmt r6)] ?_
  obtain ⟨x7,hx7,h⟩:=bsome h
  refine One' hT rfl (v_index_own s_Stmt 8 1 false (rb 1 s_Stmt l3) l3 .i64 i4 hx7) ?_
  refine Sg hT 0 [3,9,10,11,19,20] ⟨[(3,.sl 8 1 0 (s_Stmt.F l3).length false),(9,.sl 8 1 0 (s_Stmt.F l3).length false),(10,vi (ln r2)),(11,vi i4),(19,eStmt r6),(20,.box 8 1 i4.toNat 0)],[(5,cb 2 94 11 (eStmt x5)),(8,rb 1 s_Stmt l3)],3⟩ ?_
  refine One' hT rfl (v_storeRow s_Stmt 8 1 (rb 1 s_Stmt l3) l3 i4.toNat 0 x7 r6 (idx_some hx7).2) ?_
  refine oW [3,9,10,11,19] ⟨[(3,.sl 8 1 0 (s_Stmt.F l3).length false),(9,.sl 8 1 0 (s_Stmt.F l3).length false),(10,vi (ln r2)),(11,vi i4),(19,eStmt r6)],[(8,rb 1 s_Stmt (l3.set i4.toNat r6)),(5,cb 2 94 11 (eStmt x5))],3⟩ ?_
  refine WO_weak (wL [(3,.sl 8 1 0 (s_Stmt.F (l3.set i4.toNat r6)).length false),(9,.sl 8 1 0 (s_Stmt.F (l3.set i4.toNat r6)).length false),(10,vi (ln r2)),(11,vi i4),(19,eStmt r6)] [(8,rb 1 s_Stmt (l3.set i4.toNat r6)),(5,cb 2 94 11 (eStmt x5))] ⟨(VLf.slen (by simp [TE.len,lcopy_length,rcopy_length,clr_length])),(VLf.slen (by simp [TE.len,lcopy_length,rcopy_length,clr_length])),VLf.refl _,VLf.refl _,VLf.refl _,trivial⟩ (HLe.refl _)) ?_
  refine Szh hT 0 [3,9,10,11] [] [(8,rb 1 s_Stmt (l3.set i4.toNat r6)),(5,cb 2 94 11 (eStmt x5))] 3 ?_
  refine Rgd hT 2 [3,9,10,11] [(11,vi (wr (i4 + 1)))] ?_
  exact oK [3,9,10,11] [(8,8,1)] ⟨_,by omega,by omega,l3.set i4.toNat r6,wr (i4 + 1),h,rfl⟩
 refine WA_exit ?_
 refine Qzd hT 2 [2] [(2,.sl 8 1 0 (s_Stmt.F l3).length false)] ?_
 obtain rfl:=Option.some.inj h
 exact rK [2] [(8,100,1)] ⟨[(2,.sl 100 1 0 (s_Stmt.F l3).length false)],[(100,rb 1 s_Stmt l3)],2⟩ ⟨by kernel_rfl,by kernel_rfl,rfl⟩
theorem tree_copyStmt_step (n : Nat) (ih : ∀ m,m < n → tree_copyBlock_spec m) : ∀ {a0 : Stmt} {r : Stmt},tree_copyStmt n a0 = some r → PT Tryz.prog 71 [eStmt a0] (eStmt r):=by
 intro a0 r h
 rcases n with _ | n
 ·rw [tree_copyStmt] at h; cases h
 rw [tree_copyStmt] at h
 refine PT_bodyA hT Tryz.func71 rfl (by kernel_rfl) fun bad w=>?_
 refine Qz hT 2 [1,2] ⟨[(1,bx 1 0),(2,bx 2 1)],[(2,cb 1 94 11 (.agg [vi 0,vw b0,vw b0,vi 0,vi 0,vi 0,vw b0,vn,vn,vn,vz c0])),(1,cb 0 94 11 (eStmt a0))],2⟩ ?_
 refine WA_seq ?_
 refine WA_drawW hT hM (by kernel_rfl) ?_
 refine Ds 2 [(4,eExpr a0.E),(3,.box 1 0 0 4)] [] [(0,[1]),(1,[1])] ?_
 obtain ⟨r1,hr1,h⟩:=bsome h
 refine Dp [eExpr a0.E] (eExpr r1) en93 (tree_copyExpr_ok hr1) ?_
 refine Ds 2 [(7,po s_Stmt a0.Body),(6,.box 1 0 0 8)] [] [(3,[1]),(4,[1])] ?_
 obtain ⟨r2,hr2,h⟩:=bsome h
 refine Dp [po s_Stmt a0.Body] (po s_Stmt r2) en94 (PT_of_GO ((ih _ (by omega)).1 hr2)) ?_
 refine Ds 2 [(10,po s_Stmt a0.Else),(9,.box 1 0 0 9)] [] [(6,[1]),(7,[1])] ?_
 obtain ⟨r3,hr3,h⟩:=bsome h
 refine Dp [po s_Stmt a0.Else] (po s_Stmt r3) en94 (PT_of_GO ((ih _ (by omega)).1 hr3)) ?_
 refine Dh 6 [(14,.box 1 0 0 9),(13,.box 1 0 0 8),(12,.box 1 0 0 4)] [(1,cb 0 94 11 (.agg [vi a0.Kind,vw a0.Name,vw a0.Other,vi a0.N,vi r1.Kind,vi r1.N,vw r1.Name,po s_Expr r1.Of,po s_Stmt r2,po s_Stmt r3,vz a0.At])),(2,cb 1 94 11 (.agg [vi 0,vw b0,vw b0,vi 0,vi 0,vi 0,vw b0,vn,vn,vn,vz c0]))] 2 [(10,[1]),(12,[1]),(14,[1])] [(9,[1]),(11,[1]),(13,[1])] ?_
 refine De ?_
 refine Wk_done ?_
 refine Qz hT 2 [2] ⟨[(2,bx 2 1)],[(2,cb 1 94 11 (.agg [vi a0.Kind,vw a0.Name,vw a0.Other,vi a0.N,vi r1.Kind,vi r1.N,vw r1.Name,po s_Expr r1.Of,po s_Stmt r2,po s_Stmt r3,vz a0.At])),(1,cb 0 94 11 (.agg [vi a0.Kind,vw a0.Name,vw a0.Other,vi a0.N,vi r1.Kind,vi r1.N,vw r1.Name,po s_Expr r1.Of,po s_Stmt r2,po s_Stmt r3,vz a0.At]))],2⟩ ?_
 refine aW [2] ⟨[(2,bx 2 1)],[(2,cb 1 94 11 (.agg [vi a0.Kind,vw a0.Name,vw a0.Other,vi a0.N,vi r1.Kind,vi r1.N,vw r1.Name,po s_Expr r1.Of,po s_Stmt r2,po s_Stmt r3,vz a0.At])),(1,cb 0 94 11 (.agg [vi a0.Kind,vw a0.Name,vw a0.Other,vi a0.N,vi r1.Kind,vi r1.N,vw r1.Name,po s_Expr r1.Of,po s_Stmt r2,po s_Stmt r3,vz a0.At]))],2⟩ ?_
 refine WA_weak (wL [(2,bx 2 1)] [(2,cb 1 94 11 (eStmt (Stmt.mk a0.Kind a0.Name a0.Other a0.N r1 r2 r3 a0.At))),(1,cb 0 94 11 (.agg [vi a0.Kind,vw a0.Name,vw a0.Other,vi a0.N,vi r1.Kind,vi r1.N,vw r1.Name,po s_Expr r1.Of,po s_Stmt r2,po s_Stmt r3,vz a0.At]))] ⟨VLf.refl _,trivial⟩ ⟨rfl,.inr (.inl ⟨rfl,rfl,CLe.agg ⟨VLf.refl _,VLf.refl _,VLf.refl _,VLf.refl _,VLf.refl _,VLf.refl _,VLf.refl _,VLf.refl _,VLf.refl _,VLf.refl _,VLf.refl _,trivial⟩,trivial⟩),rfl,.inl rfl,trivial⟩) ?_
 obtain rfl:=Option.some.inj h
 exact rR [(2,1000,0)] ⟨[(2,bx 1000 0)],[(1000,cb 0 94 11 (eStmt (Stmt.mk a0.Kind a0.Name a0.Other a0.N r1 r2 r3 a0.At)))],1⟩ ⟨by kernel_rfl,rfl⟩
theorem tree_copyBlock_all (n : Nat) : tree_copyBlock_spec n:=by
 induction n using Nat.strongRecOn with
 | _ n ih=>exact ⟨tree_copyBlock_step n ih,tree_copyStmt_step n ih⟩
theorem tree_copyStmt_ok {n : Nat} {a0 : Stmt} {r : Stmt} (h : tree_copyStmt n a0 = some r) : PT Tryz.prog 71 [eStmt a0] (eStmt r):=(tree_copyBlock_all n).2 h
theorem Clip_Stmt_ok {n : Nat} {a0 : List Stmt} {r : List Stmt} (h : Clip_Stmt n a0 = some r) : PT Tryz.prog 72 [po s_Stmt a0] (.ps .fopt (s_Stmt.F r)):=by
 unfold Clip_Stmt at h
 refine PT_bodyA hT Tryz.func72 rfl (by kernel_rfl) fun bad w=>?_
 refine Qzd hT 1 [0] [] ?_
 refine Qgd hT 2 [0,3,4] [(3,po s_Stmt a0),(4,po s_Stmt a0)] ?_
 refine One' hT rfl (v_len s_Stmt .opt a0) ?_
 refine Sgd hT 1 [3,5,6] [(5,vi (ln a0)),(6,po s_Stmt a0)] ?_
 refine One' hT rfl (v_len s_Stmt .opt a0) ?_
 refine Sgd hT 0 [3,5,7] [(7,vi (ln a0))] ?_
 obtain ⟨l1,hl1,h⟩:=bsome h
 refine One' hT rfl (v_slice s_Stmt .opt a0 0 (ln a0) (some (ln a0)) l1 .fopt hl1 (by intro y hy; cases hy; rfl)) ?_
 refine Sz hT 1 [2] ⟨[(2,.ps .fopt (s_Stmt.F l1))],[],0⟩ ?_
 obtain rfl:=Option.some.inj h
 exact rK [2] [] ⟨[(2,.ps .fopt (s_Stmt.F l1))],[],1⟩ ⟨by kernel_rfl,rfl⟩
theorem tree_List_ok {n : Nat} {a0 : Prog} {r : List Stmt} (h : tree_List n a0 = some r) : PT Tryz.prog 44 [eProg a0] (.ps .fopt (s_Stmt.F r)):=by
 unfold tree_List at h
 refine PT_bodyA hT Tryz.func44 rfl (by kernel_rfl) fun bad w=>?_
 refine Qz hT 2 [1] ⟨[(1,bx 1 0)],[(1,cb 0 26 2 (eProg a0))],1⟩ ?_
 refine Qzd hT 1 [1,3] [(3,vn)] ?_
 refine WA_seq ?_
 refine Qgd hT 2 [3,9] [(9,po s_LStmt a0.Threads)] ?_
 refine One' hT rfl (v_len s_LStmt .opt a0.Threads) ?_
 refine Szd hT 1 [3,9,10,11] [(10,vi (ln a0.Threads)),(11,vi 0)] ?_
 refine WA_block ?_
 refine aW [3,9,10,11] ⟨[(3,vn),(9,po s_LStmt a0.Threads),(10,vi (ln a0.Threads)),(11,vi 0)],[(1,cb 0 26 2 (eProg a0))],1⟩ ?_
 refine WA_weak (wO 3 5000 94 11) ?_
 refine lK [3,9,10,11] [(5000,10003,0)] (fun k s=>∃ q,q ≤ k ∧ q ≤ n ∧ ∃ (l1 : List Stmt),∃ (i2 : Int),tree_List_L0 q a0 l1 i2 = some r ∧ s = ⟨[(3,vs 10003 0 s_Stmt l1),(9,po s_LStmt a0.Threads),(10,vi (ln a0.Threads)),(11,vi i2)],[(10003,rb 0 s_Stmt l1)],1⟩) n ⟨n,Nat.le_refl _,Nat.le_refl _,([] : List Stmt),0,h,rfl⟩ (by rintro s ⟨q,hq,_,l1,i2,h,_⟩; obtain rfl:=Nat.le_zero.1 hq; rw [tree_List_L0] at h; cases h) ?_
 clear h
 rintro k1 s ⟨q1,hk1,hn1,l1,i2,h,rfl⟩
 rcases q1 with _ | q1
 ·rw [tree_List_L0] at h; cases h
 rw [tree_List_L0] at h
 refine Qzd hT 1 [3,9,10,11,12] [(12,vb (decide (i2 < (ln a0.Threads))))] ?_
 refine WA_seq ?_
 refine Ci h (fun h=>?_) fun h=>?_
 ·refine WA_skip ?_
  refine WA_seq ?_
  refine WA_block ?_
  refine Qgd hT 0 [3,9,10,11] [] ?_
  obtain ⟨x3,hx3,h⟩:=bsome h
  refine One' hT rfl (v_index s_LStmt .opt a0.Threads .i64 i2 hx3) ?_
  refine Sz hT 2 [3,5,9,10,11] ⟨[(3,vs 10003 0 s_Stmt l1),(5,po s_Stmt x3),(9,po s_LStmt a0.Threads),(10,vi (ln a0.Threads)),(11,vi i2)],[(10003,rb 0 s_Stmt l1)],1⟩ ?_
  refine Rgd hT 2 [9,10,11,15,16] [(15,vs 10003 0 s_Stmt l1),(16,po s_Stmt x3)] ?_
  obtain ⟨r4,hr4,h⟩:=bsome h
  refine Og [(0,rb 0 s_Stmt l1)] [(100,rb 1 s_Stmt r4)] [vs 10003 0 s_Stmt l1,po s_Stmt x3] [vs 0 0 s_Stmt l1,po s_Stmt x3] [(10003,0,0)] [(100,17,1)] [(17,rb 1 s_Stmt r4)] (vs 100 1 s_Stmt r4) (vs 17 1 s_Stmt r4) 2 en70 (tree_listed_o_ok hr4) ?_
  refine Szh hT 1 [3,9,10,11] [(3,vs 17 1 s_Stmt r4)] [(17,rb 1 s_Stmt r4)] 2 ?_
  refine Rgd hT 2 [3,9,10,11] [(11,vi (wr (i2 + 1)))] ?_
  exact oK [3,9,10,11] [(17,10003,0)] ⟨_,by omega,by omega,r4,wr (i2 + 1),h,rfl⟩
 refine WA_exit ?_
 refine WA_seq ?_
 refine Qgd hT 1 [3,19] [(19,vs 10003 0 s_Stmt l1)] ?_
 refine One' hT rfl (v_len_own s_Stmt 10003 0 true (rb 0 s_Stmt l1) l1) ?_
 refine Szd hT 1 [3,19,20,21] [(20,vi (ln l1)),(21,vi 0)] ?_
 refine WA_block ?_
 refine lK [3,19,20,21] [(10003,10003,0)] (fun k s=>∃ q,q ≤ k ∧ q ≤ q1 ∧ ∃ (l5 : List Stmt),∃ (i6 : Int),tree_List_L1 q a0 l1 i2 l5 i6 = some r ∧ s = ⟨[(3,vs 10003 0 s_Stmt l5),(19,vs 10003 0 s_Stmt l5),(20,vi (ln l1)),(21,vi i6)],[(10003,rb 0 s_Stmt l5)],1⟩) q1 ⟨q1,Nat.le_refl _,Nat.le_refl _,l1,0,h,rfl⟩ (by rintro s ⟨q,hq,_,l5,i6,h,_⟩; obtain rfl:=Nat.le_zero.1 hq; rw [tree_List_L1] at h; cases h) ?_
 clear h
 rintro k2 s ⟨q2,hk2,hn2,l5,i6,h,rfl⟩
 rcases q2 with _ | q2
 ·rw [tree_List_L1] at h; cases h
 rw [tree_List_L1] at h
 refine Qzd hT 1 [3,19,20,21,22] [(22,vb (decide (i6 < (ln l1))))] ?_
 refine WA_seq ?_
 refine Ci h (fun h=>?_) fun h=>?_
 ·refine WA_skip ?_
  refine WA_seq ?_
  refine WA_block ?_
  refine Qgd hT 1 [3,19,20,21,23] [(23,vi i6)] ?_
  obtain ⟨x7,hx7,h⟩:=bsome h
  refine One' hT rfl (v_index_own s_Stmt 10003 0 true (rb 0 s_Stmt l5) l5 .i64 i6 hx7) ?_
  refine Sgd hT 0 [3,19,20,21,23,24] [(24,.box 10003 0 i6.toNat 0)] ?_
  refine One' hT rfl (v_load_row s_Stmt 10003 0 (rb 0 s_Stmt l5) l5 i6.toNat 0 x7 (eStmt x7) (idx_some hx7).2) ?_
  refine Sz hT 3 [3,6,7,19,20,21] ⟨[(3,vs 10003 0 s_Stmt l5),(6,vi i6),(7,bx 7 1),(19,vs 10003 0 s_Stmt l5),(20,vi (ln l1)),(21,vi i6)],[(7,cb 1 94 11 (eStmt x7)),(10003,rb 0 s_Stmt l5)],2⟩ ?_
  refine Rgd hT 3 [3,19,20,21,26,27,28] [(26,vs 10003 0 s_Stmt l5),(27,vi i6),(28,eStmt x7)] ?_
  obtain ⟨r8,hr8,h⟩:=bsome h
  refine Pt' en71 (tree_copyStmt_ok hr8) ?_
  refine Sgd hT 0 [3,19,20,21,26,27,29] [(29,eStmt r8)] ?_
  obtain ⟨x9,hx9,h⟩:=bsome h
  refine One' hT rfl (v_index_own s_Stmt 10003 0 true (rb 0 s_Stmt l5) l5 .i64 i6 hx9) ?_
  refine Sgd hT 0 [3,19,20,21,29,30] [(30,.box 10003 0 i6.toNat 0)] ?_
  refine One' hT rfl (v_storeRow s_Stmt 10003 0 (rb 0 s_Stmt l5) l5 i6.toNat 0 x9 r8 (idx_some hx9).2) ?_
  refine oW [3,19,20,21,29] ⟨[(3,vs 10003 0 s_Stmt l5),(19,vs 10003 0 s_Stmt l5),(20,vi (ln l1)),(21,vi i6),(29,eStmt r8)],[(10003,rb 0 s_Stmt (l5.set i6.toNat r8)),(7,cb 1 94 11 (eStmt x7))],2⟩ ?_
  refine WO_weak (wL [(3,vs 10003 0 s_Stmt (l5.set i6.toNat r8)),(19,vs 10003 0 s_Stmt (l5.set i6.toNat r8)),(20,vi (ln l1)),(21,vi i6),(29,eStmt r8)] [(10003,rb 0 s_Stmt (l5.set i6.toNat r8)),(7,cb 1 94 11 (eStmt x7))] ⟨(VLf.slen (by simp [TE.len,lcopy_length,rcopy_length,clr_length])),(VLf.slen (by simp [TE.len,lcopy_length,rcopy_length,clr_length])),VLf.refl _,VLf.refl _,VLf.refl _,trivial⟩ (HLe.refl _)) ?_
  refine Szh hT 0 [3,19,20,21] [] [(10003,rb 0 s_Stmt (l5.set i6.toNat r8)),(7,cb 1 94 11 (eStmt x7))] 2 ?_
  refine Rgd hT 2 [3,19,20,21] [(21,vi (wr (i6 + 1)))] ?_
  exact oK [3,19,20,21] [(10003,10003,0)] ⟨_,by omega,by omega,l5.set i6.toNat r8,wr (i6 + 1),h,rfl⟩
 refine WA_exit ?_
 refine Qgd hT 1 [32] [(32,vs 10003 0 s_Stmt l5)] ?_
 refine WO_weak (wF 10003 0 (rb 0 s_Stmt l5) [(32,po s_Stmt l5)] [] ⟨rfl,.hit true,trivial⟩ trivial) ?_
 obtain ⟨r10,hr10,h⟩:=bsome h
 refine Pt' en72 (Clip_Stmt_ok hr10) ?_
 refine Sz hT 1 [2] ⟨[(2,.ps .fopt (s_Stmt.F r10))],[],1⟩ ?_
 obtain rfl:=Option.some.inj h
 exact rK [2] [] ⟨[(2,.ps .fopt (s_Stmt.F r10))],[],1⟩ ⟨by kernel_rfl,rfl⟩
theorem Clip_string_ok {n : Nat} {a0 : List ByteArray} {r : List ByteArray} (h : Clip_string n a0 = some r) : PT Tryz.prog 97 [po s_string a0] (.ps .fopt (s_string.F r)):=by
 unfold Clip_string at h
 refine PT_bodyA hT Tryz.func97 rfl (by kernel_rfl) fun bad w=>?_
 refine Qzd hT 1 [0] [] ?_
 refine Qgd hT 2 [0,3,4] [(3,po s_string a0),(4,po s_string a0)] ?_
 refine One' hT rfl (v_len s_string .opt a0) ?_
 refine Sgd hT 1 [3,5,6] [(5,vi (ln a0)),(6,po s_string a0)] ?_
 refine One' hT rfl (v_len s_string .opt a0) ?_
 refine Sgd hT 0 [3,5,7] [(7,vi (ln a0))] ?_
 obtain ⟨l1,hl1,h⟩:=bsome h
 refine One' hT rfl (v_slice s_string .opt a0 0 (ln a0) (some (ln a0)) l1 .fopt hl1 (by intro y hy; cases hy; rfl)) ?_
 refine Sz hT 1 [2] ⟨[(2,.ps .fopt (s_string.F l1))],[],0⟩ ?_
 obtain rfl:=Option.some.inj h
 exact rK [2] [] ⟨[(2,.ps .fopt (s_string.F l1))],[],1⟩ ⟨by kernel_rfl,rfl⟩
def tree_Names_spec (n : Nat) : Prop:=(∀ {a0 : Expr} {r : List ByteArray},tree_Names n a0 = some r → PT Tryz.prog 96 [eExpr a0] (.ps .fopt (s_string.F r)))
theorem tree_Names_step (n : Nat) (ih : ∀ m,m < n → tree_Names_spec m) : ∀ {a0 : Expr} {r : List ByteArray},tree_Names n a0 = some r → PT Tryz.prog 96 [eExpr a0] (.ps .fopt (s_string.F r)):=by
 intro a0 r h
 rcases n with _ | n
 ·rw [tree_Names] at h; cases h
 rw [tree_Names] at h
 refine PT_bodyA hT Tryz.func96 rfl (by kernel_rfl) fun bad w=>?_
 refine Qz hT 2 [1] ⟨[(1,bx 1 0)],[(1,cb 0 92 4 (eExpr a0))],1⟩ ?_
 refine Qzd hT 1 [1,3] [(3,vn)] ?_
 refine WA_seq ?_
 refine Qzd hT 3 [1,3,8] [(8,vb (a0.Kind == 2))] ?_
 obtain ⟨J2,hJ2,h⟩:=jsome h
 refine WA_join (fun s=>∃ (l1 : List ByteArray),J2 l1 = some r ∧ s = ⟨[(1,bx 1 0),(3,vs 10003 0 s_string l1)],[(1,cb 0 92 4 (eExpr a0)),(10003,rb 0 s_string l1)],1⟩) ?_ ?_
 ·refine Ci h (fun h=>?_) fun h=>?_
  ·refine Rg hT 4 [1,9,12] ⟨[(1,bx 1 0),(9,vn),(12,vs 12 1 s_string [a0.Name])],[(12,⟨1,9,1,false,false,s_string.F [a0.Name]⟩),(1,cb 0 92 4 (eExpr a0))],2⟩ ?_
   refine WO_weak (wO 9 6013 9 1) ?_
   obtain ⟨g3,h⟩:=gsome h
   refine Oa hT s_string 6013 2 true ([] : List ByteArray) [a0.Name] (eO s_string 12 1 true ⟨1,9,1,false,false,s_string.F [a0.Name]⟩ [a0.Name]) g3 ?_
   refine Sg hT 1 [1,3] ⟨[(1,bx 1 0),(3,vs 13 3 s_string (([] : List ByteArray) ++ [a0.Name]))],[(13,rb 3 s_string (([] : List ByteArray) ++ [a0.Name])),(12,⟨1,9,1,false,false,s_string.F [a0.Name]⟩),(1,cb 0 92 4 (eExpr a0))],4⟩ ?_
   exact oK [1,3] [(1,1,0),(13,10003,0)] ⟨([] : List ByteArray) ++ [a0.Name],h,rfl⟩
  refine aW [1,3] ⟨[(1,bx 1 0),(3,vn)],[(1,cb 0 92 4 (eExpr a0))],1⟩ ?_
  refine WA_weak (wO 3 5000 9 1) ?_
  exact sK [1,3] [(1,1,0),(5000,10003,0)] ⟨([] : List ByteArray),h,rfl⟩
 subst hJ2
 rintro s ⟨l1,h,rfl⟩
 refine WA_seq ?_
 refine Qgd hT 2 [3,15] [(15,po s_Expr a0.Of)] ?_
 refine One' hT rfl (v_len s_Expr .opt a0.Of) ?_
 refine Szd hT 1 [3,15,16,17] [(16,vi (ln a0.Of)),(17,vi 0)] ?_
 refine WA_block ?_
 refine lK [3,15,16,17] [(10003,10003,0)] (fun k s=>∃ q,q ≤ k ∧ q ≤ n ∧ ∃ (l4 : List ByteArray),∃ (i5 : Int),tree_Names_L0 q a0 l1 l4 i5 = some r ∧ s = ⟨[(3,vs 10003 0 s_string l4),(15,po s_Expr a0.Of),(16,vi (ln a0.Of)),(17,vi i5)],[(10003,rb 0 s_string l4)],1⟩) n ⟨n,Nat.le_refl _,Nat.le_refl _,l1,0,h,rfl⟩ (by rintro s ⟨q,hq,_,l4,i5,h,_⟩; obtain rfl:=Nat.le_zero.1 hq; rw [tree_Names_L0] at h; cases h) ?_
 clear h
 rintro k1 s ⟨q1,hk1,hn1,l4,i5,h,rfl⟩
 rcases q1 with _ | q1
 ·rw [tree_Names_L0] at h; cases h
 rw [tree_Names_L0] at h
 refine Qzd hT 1 [3,15,16,17,18] [(18,vb (decide (i5 < (ln a0.Of))))] ?_
 refine WA_seq ?_
 refine Ci h (fun h=>?_) fun h=>?_
 ·refine WA_skip ?_
  refine WA_seq ?_
  refine WA_block ?_
  refine Qg hT 0 [3,15,16,17] ⟨[(3,vs 10003 0 s_string l4),(15,po s_Expr a0.Of),(16,vi (ln a0.Of)),(17,vi i5)],[(10003,rb 0 s_string l4)],1⟩ ?_
  obtain ⟨x6,hx6,h⟩:=bsome h
  refine One' hT rfl (v_index s_Expr .opt a0.Of .i64 i5 hx6) ?_
  refine Szh hT 3 [3,5,15,16,17] [(5,bx 5 1)] [(5,cb 1 92 4 (eExpr x6)),(10003,rb 0 s_string l4)] 2 ?_
  refine Rgd hT 2 [15,16,17,21,22] [(21,vs 10003 0 s_string l4),(22,eExpr x6)] ?_
  obtain ⟨r7,hr7,h⟩:=bsome h
  refine Pt' en96 ((ih _ (by omega)) hr7) ?_
  refine Sgd hT 0 [15,16,17,21,23] [(23,.ps .fopt (s_string.F r7))] ?_
  obtain ⟨g8,h⟩:=gsome h
  refine Oa hT s_string 10003 0 true l4 r7 (by kernel_rfl) g8 ?_
  refine Szh hT 1 [3,15,16,17] [(3,vs 24 2 s_string (l4 ++ r7))] [(24,rb 2 s_string (l4 ++ r7)),(5,cb 1 92 4 (eExpr x6))] 3 ?_
  refine Rgd hT 2 [3,15,16,17] [(17,vi (wr (i5 + 1)))] ?_
  exact oK [3,15,16,17] [(24,10003,0)] ⟨_,by omega,by omega,l4 ++ r7,wr (i5 + 1),h,rfl⟩
 refine WA_exit ?_
 refine Qgd hT 1 [26] [(26,vs 10003 0 s_string l4)] ?_
 refine WO_weak (wF 10003 0 (rb 0 s_string l4) [(26,po s_string l4)] [] ⟨rfl,.hit true,trivial⟩ trivial) ?_
 obtain ⟨r9,hr9,h⟩:=bsome h
 refine Pt' en97 (Clip_string_ok hr9) ?_
 refine Sz hT 1 [2] ⟨[(2,.ps .fopt (s_string.F r9))],[],1⟩ ?_
 obtain rfl:=Option.some.inj h
 exact rK [2] [] ⟨[(2,.ps .fopt (s_string.F r9))],[],1⟩ ⟨by kernel_rfl,rfl⟩
theorem tree_Names_all (n : Nat) : tree_Names_spec n:=by
 induction n using Nat.strongRecOn with
 | _ n ih=>exact tree_Names_step n ih
theorem tree_Names_ok {n : Nat} {a0 : Expr} {r : List ByteArray} (h : tree_Names n a0 = some r) : PT Tryz.prog 96 [eExpr a0] (.ps .fopt (s_string.F r)):=(tree_Names_all n) h
theorem tree_Touches_ok {n : Nat} {a0 : Stmt} {r : List ByteArray} (h : tree_Touches n a0 = some r) : PT Tryz.prog 74 [eStmt a0] (.ps .fopt (s_string.F r)):=by
 unfold tree_Touches at h
 refine PT_bodyA hT Tryz.func74 rfl (by kernel_rfl) fun bad w=>?_
 refine Qz hT 2 [1] ⟨[(1,bx 1 0)],[(1,cb 0 94 11 (eStmt a0))],1⟩ ?_
 refine Qzd hT 1 [1,3] [(3,vn)] ?_
 refine WA_seq ?_
 refine Qzd hT 2 [1,3,5] [(5,vi a0.Kind)] ?_
 obtain ⟨J2,hJ2,h⟩:=jsome h
 refine WA_join (fun s=>∃ (l1 : List ByteArray),J2 l1 = some r ∧ s = ⟨[(1,bx 1 0),(3,.ps .fopt (s_string.F l1))],[(1,cb 0 94 11 (eStmt a0))],1⟩) ?_ ?_
 ·refine WA_block ?_
  refine WA_seq ?_
  refine Qzd hT 2 [1,3,5,6] [(6,vb (a0.Kind == 1))] ?_
  obtain ⟨J4,hJ4,h⟩:=jsome h
  refine WA_join (fun s=>∃ (b3 : Bool),J4 b3 = some r ∧ s = ⟨[(1,bx 1 0),(3,vn),(6,vb b3)],[(1,cb 0 94 11 (eStmt a0))],1⟩) ?_ ?_
  ·refine Ci h (fun h=>?_) fun h=>?_
   ·exact sK [1,3,6] [(1,1,0)] ⟨(a0.Kind == 1),h,rfl⟩
   refine Qzd hT 2 [1,3,5,6] [(6,vb (a0.Kind == 4))] ?_
   refine Ci h (fun h=>?_) fun h=>?_
   ·exact sK [1,3,6] [(1,1,0)] ⟨(a0.Kind == 4),h,rfl⟩
   refine Qzd hT 2 [1,3,5,6] [(6,vb (a0.Kind == 6))] ?_
   refine Ci h (fun h=>?_) fun h=>?_
   ·exact sK [1,3,6] [(1,1,0)] ⟨(a0.Kind == 6),h,rfl⟩
   refine Rg hT 2 [1,3,6] ⟨[(1,bx 1 0),(3,vn),(6,vb (a0.Kind == 7))],[(1,cb 0 94 11 (eStmt a0))],1⟩ ?_
   exact oK [1,3,6] [(1,1,0)] ⟨(a0.Kind == 7),h,rfl⟩
  subst hJ4
  rintro s ⟨b3,h,rfl⟩
  skip
  refine Ci h (fun h=>?_) fun h=>?_
  ·refine Rgd hT 2 [1,12] [(12,eExpr a0.E)] ?_
   obtain ⟨r5,hr5,h⟩:=bsome h
   refine Pt' en96 (tree_Names_ok hr5) ?_
   refine Sgd hT 1 [1,3] [(3,.ps .fopt (s_string.F r5))] ?_
   exact oK [1,3] [(1,1,0)] ⟨r5,h,rfl⟩
  refine aW [1,3] ⟨[(1,bx 1 0),(3,vn)],[(1,cb 0 94 11 (eStmt a0))],1⟩ ?_
  refine WA_weak (wL [(1,bx 1 0),(3,.ps .fopt (s_string.F []))] [(1,cb 0 94 11 (eStmt a0))] ⟨VLf.refl _,(VLe.f VLe.nil_fopt rfl),trivial⟩ ⟨rfl,.inl rfl,trivial⟩) ?_
  exact sR [(1,1,0)] ⟨[],h,rfl⟩
 subst hJ2
 rintro s ⟨l1,h,rfl⟩
 refine WA_seq ?_
 refine Qzd hT 2 [1,3,15] [(15,vi a0.Kind)] ?_
 obtain ⟨J7,hJ7,h⟩:=jsome h
 refine WA_join (fun s=>∃ (l6 : List ByteArray),J7 l6 = some r ∧ s = ⟨[(3,po s_string l6)],[],1⟩) ?_ ?_
 ·refine WA_block ?_
  refine Qzd hT 2 [1,3,15,16] [(16,vb (a0.Kind == 1))] ?_
  refine Ci h (fun h=>?_) fun h=>?_
  ·refine Rg hT 4 [18,21] ⟨[(18,.ps .fopt (s_string.F l1)),(21,vs 21 1 s_string [a0.Name])],[(21,⟨1,9,1,false,false,s_string.F [a0.Name]⟩),(1,cb 0 94 11 (eStmt a0))],2⟩ ?_
   obtain ⟨g8,h⟩:=gsome h
   refine One' hT rfl (ev_appendF s_string .fopt l1 [a0.Name] (by decide) (by kernel_rfl) (eO s_string 21 1 true ⟨1,9,1,false,false,s_string.F [a0.Name]⟩ [a0.Name]) (by simp) g8) ?_
   refine Sg hT 1 [3] ⟨[(3,vs 22 2 s_string (l1 ++ [a0.Name]))],[(22,⟨2,9,1,false,false,s_string.F (l1 ++ [a0.Name])⟩),(21,⟨1,9,1,false,false,s_string.F [a0.Name]⟩),(1,cb 0 94 11 (eStmt a0))],3⟩ ?_
   refine oW [3] ⟨[(3,vs 22 2 s_string (l1 ++ [a0.Name]))],[(22,⟨2,9,1,false,false,s_string.F (l1 ++ [a0.Name])⟩),(21,⟨1,9,1,false,false,s_string.F [a0.Name]⟩),(1,cb 0 94 11 (eStmt a0))],3⟩ ?_
   refine WO_weak (wF 22 2 ⟨2,9,1,false,false,s_string.F (l1 ++ [a0.Name])⟩ [(3,po s_string (l1 ++ [a0.Name]))] [(21,⟨1,9,1,false,false,s_string.F [a0.Name]⟩),(1,cb 0 94 11 (eStmt a0))] ⟨rfl,.hit true,trivial⟩ ⟨rfl,.inl rfl,rfl,.inl rfl,trivial⟩) ?_
   exact oR [] ⟨l1 ++ [a0.Name],h,rfl⟩
  refine Qzd hT 2 [1,3,23] [(23,vb (a0.Kind == 5))] ?_
  refine Ci h (fun h=>?_) fun h=>?_
  ·refine Rg hT 4 [25,28] ⟨[(25,.ps .fopt (s_string.F l1)),(28,vs 28 1 s_string [a0.Other])],[(28,⟨1,9,1,false,false,s_string.F [a0.Other]⟩),(1,cb 0 94 11 (eStmt a0))],2⟩ ?_
   obtain ⟨g9,h⟩:=gsome h
   refine One' hT rfl (ev_appendF s_string .fopt l1 [a0.Other] (by decide) (by kernel_rfl) (eO s_string 28 1 true ⟨1,9,1,false,false,s_string.F [a0.Other]⟩ [a0.Other]) (by simp) g9) ?_
   refine Sg hT 1 [3] ⟨[(3,vs 29 2 s_string (l1 ++ [a0.Other]))],[(29,⟨2,9,1,false,false,s_string.F (l1 ++ [a0.Other])⟩),(28,⟨1,9,1,false,false,s_string.F [a0.Other]⟩),(1,cb 0 94 11 (eStmt a0))],3⟩ ?_
   refine oW [3] ⟨[(3,vs 29 2 s_string (l1 ++ [a0.Other]))],[(29,⟨2,9,1,false,false,s_string.F (l1 ++ [a0.Other])⟩),(28,⟨1,9,1,false,false,s_string.F [a0.Other]⟩),(1,cb 0 94 11 (eStmt a0))],3⟩ ?_
   refine WO_weak (wF 29 2 ⟨2,9,1,false,false,s_string.F (l1 ++ [a0.Other])⟩ [(3,po s_string (l1 ++ [a0.Other]))] [(28,⟨1,9,1,false,false,s_string.F [a0.Other]⟩),(1,cb 0 94 11 (eStmt a0))] ⟨rfl,.hit true,trivial⟩ ⟨rfl,.inl rfl,rfl,.inl rfl,trivial⟩) ?_
   exact oR [] ⟨l1 ++ [a0.Other],h,rfl⟩
  refine aW [3] ⟨[(3,.ps .fopt (s_string.F l1))],[(1,cb 0 94 11 (eStmt a0))],1⟩ ?_
  refine WA_weak (wL [(3,po s_string l1)] [(1,cb 0 94 11 (eStmt a0))] ⟨(VLe.f VLe.fopt_opt rfl),trivial⟩ ⟨rfl,.inl rfl,trivial⟩) ?_
  exact sR [] ⟨l1,h,rfl⟩
 subst hJ7
 rintro s ⟨l6,h,rfl⟩
 refine Qg hT 1 [30] ⟨[(30,po s_string l6)],[],1⟩ ?_
 obtain ⟨r10,hr10,h⟩:=bsome h
 refine Pt' en97 (Clip_string_ok hr10) ?_
 refine Sz hT 1 [2] ⟨[(2,.ps .fopt (s_string.F r10))],[],1⟩ ?_
 obtain rfl:=Option.some.inj h
 exact rK [2] [] ⟨[(2,.ps .fopt (s_string.F r10))],[],1⟩ ⟨by kernel_rfl,rfl⟩
theorem Index_string_ok {n : Nat} {a0 : List ByteArray} {a1 : ByteArray} {r : Int} (h : Index_string n a0 a1 = some r) : PT Tryz.prog 98 [po s_string a0,vw a1] (vi r):=by
 unfold Index_string at h
 refine PT_bodyA hT Tryz.func98 rfl (by kernel_rfl) fun bad w=>?_
 refine Qzd hT 1 [0,1] [] ?_
 refine WA_seq ?_
 refine Qgd hT 1 [0,1,6] [(6,po s_string a0)] ?_
 refine One' hT rfl (v_len s_string .opt a0) ?_
 refine Szd hT 1 [0,1,7,8] [(7,vi (ln a0)),(8,vi 0)] ?_
 refine WA_block ?_
 refine lK [0,1,7,8] [] (fun k s=>∃ q,q ≤ k ∧ q ≤ n ∧ ∃ (i1 : Int),Index_string_L0 q a0 a1 i1 = some r ∧ s = ⟨[(0,po s_string a0),(1,vw a1),(7,vi (ln a0)),(8,vi i1)],[],1⟩) n ⟨n,Nat.le_refl _,Nat.le_refl _,0,h,rfl⟩ (by rintro s ⟨q,hq,_,i1,h,_⟩; obtain rfl:=Nat.le_zero.1 hq; rw [Index_string_L0] at h; cases h) ?_
 clear h
 rintro k1 s ⟨q1,hk1,hn1,i1,h,rfl⟩
 rcases q1 with _ | q1
 ·rw [Index_string_L0] at h; cases h
 rw [Index_string_L0] at h
 refine Qzd hT 1 [0,1,7,8,9] [(9,vb (decide (i1 < (ln a0))))] ?_
 refine WA_seq ?_
 refine Ci h (fun h=>?_) fun h=>?_
 ·refine WA_skip ?_
  refine WA_seq ?_
  refine WA_block ?_
  refine Qzd hT 2 [0,1,5,7,8] [(5,vi i1)] ?_
  refine Qgd hT 3 [0,1,5,7,8,11,12,13] [(11,vw a1),(12,po s_string a0),(13,vi i1)] ?_
  obtain ⟨x2,hx2,h⟩:=bsome h
  refine One' hT rfl (v_index s_string .opt a0 .i64 i1 hx2) ?_
  refine Szd hT 2 [0,1,5,7,8,16] [(16,vb (bytesEq a1 x2))] ?_
  refine Ci h (fun h=>?_) fun h=>?_
  ·refine Qz hT 2 [4] ⟨[(4,vi i1)],[],1⟩ ?_
   obtain rfl:=Option.some.inj h
   exact rK [4] [] ⟨[(4,vi i1)],[],1⟩ ⟨by kernel_rfl,rfl⟩
  refine WA_skip ?_
  refine Rgd hT 2 [0,1,7,8] [(8,vi (wr (i1 + 1)))] ?_
  exact oK [0,1,7,8] [] ⟨_,by omega,by omega,wr (i1 + 1),h,rfl⟩
 refine WA_exit ?_
 refine Qz hT 1 [4] ⟨[(4,vi (-1))],[],1⟩ ?_
 obtain rfl:=Option.some.inj h
 exact rK [4] [] ⟨[(4,vi (-1))],[],1⟩ ⟨by kernel_rfl,rfl⟩
theorem Contains_string_ok {n : Nat} {a0 : List ByteArray} {a1 : ByteArray} {r : Bool} (h : Contains_string n a0 a1 = some r) : PT Tryz.prog 76 [po s_string a0,vw a1] (vb r):=by
 unfold Contains_string at h
 refine PT_bodyA hT Tryz.func76 rfl (by kernel_rfl) fun bad w=>?_
 refine Qzd hT 1 [0,1] [] ?_
 refine Qg hT 2 [5,6] ⟨[(5,po s_string a0),(6,vw a1)],[],0⟩ ?_
 obtain ⟨r1,hr1,h⟩:=bsome h
 refine Pt' en98 (Index_string_ok hr1) ?_
 refine Sz hT 2 [4] ⟨[(4,vb (decide (r1 ≥ 0)))],[],0⟩ ?_
 obtain rfl:=Option.some.inj h
 exact rK [4] [] ⟨[(4,vb (decide (r1 ≥ 0)))],[],1⟩ ⟨by kernel_rfl,rfl⟩
theorem cost_touches_1_ok {n : Nat} {a0 : ByteArray} {a1 : List ByteArray} {r : Bool} (h : cost_touches_1 n a0 a1 = some r) : PT Tryz.prog 75 [vw a0,.ref (el_string a1) 0] (vb r):=by
 unfold cost_touches_1 at h
 refine PT_bodyA hT Tryz.func75 rfl (by kernel_rfl) fun bad w=>?_
 refine Qzd hT 1 [0,1] [] ?_
 refine Qg hT 2 [4,5] ⟨[(4,po s_string a1),(5,vw a0)],[],0⟩ ?_
 obtain ⟨r1,hr1,h⟩:=bsome h
 refine Pt' en76 (Contains_string_ok hr1) ?_
 refine Sz hT 1 [3] ⟨[(3,vb r1)],[],0⟩ ?_
 obtain rfl:=Option.some.inj h
 exact rK [3] [] ⟨[(3,vb r1)],[],1⟩ ⟨by kernel_rfl,rfl⟩
theorem IndexFunc_string_fcost_touches_1_ok {n : Nat} {a0 : List ByteArray} {a1c0 : List ByteArray} {r : Int} (h : IndexFunc_string_fcost_touches_1 n a0 a1c0 = some r) : PT Tryz.prog 95 [po s_string a0,.fn 75 [] [.ref (el_string a1c0) 0]] (vi r):=by
 unfold IndexFunc_string_fcost_touches_1 at h
 refine PT_bodyA hT Tryz.func95 rfl (by kernel_rfl) fun bad w=>?_
 refine Qzd hT 1 [0,1] [] ?_
 refine WA_seq ?_
 refine Qgd hT 1 [0,1,6] [(6,po s_string a0)] ?_
 refine One' hT rfl (v_len s_string .opt a0) ?_
 refine Szd hT 1 [0,1,7,8] [(7,vi (ln a0)),(8,vi 0)] ?_
 refine WA_block ?_
 refine lK [0,1,7,8] [] (fun k s=>∃ q,q ≤ k ∧ q ≤ n ∧ ∃ (i1 : Int),IndexFunc_string_fcost_touches_1_L0 q a0 a1c0 i1 = some r ∧ s = ⟨[(0,po s_string a0),(1,.fn 75 [] [.ref (el_string a1c0) 0]),(7,vi (ln a0)),(8,vi i1)],[],1⟩) n ⟨n,Nat.le_refl _,Nat.le_refl _,0,h,rfl⟩ (by rintro s ⟨q,hq,_,i1,h,_⟩; obtain rfl:=Nat.le_zero.1 hq; rw [IndexFunc_string_fcost_touches_1_L0] at h; cases h) ?_
 clear h
 rintro k1 s ⟨q1,hk1,hn1,i1,h,rfl⟩
 rcases q1 with _ | q1
 ·rw [IndexFunc_string_fcost_touches_1_L0] at h; cases h
 rw [IndexFunc_string_fcost_touches_1_L0] at h
 refine Qzd hT 1 [0,1,7,8,9] [(9,vb (decide (i1 < (ln a0))))] ?_
 refine WA_seq ?_
 refine Ci h (fun h=>?_) fun h=>?_
 ·refine WA_skip ?_
  refine WA_seq ?_
  refine WA_block ?_
  refine Qzd hT 2 [0,1,5,7,8] [(5,vi i1)] ?_
  refine Qgd hT 3 [0,1,5,7,8,11,12,13] [(11,.fn 75 [] [.ref (el_string a1c0) 0]),(12,po s_string a0),(13,vi i1)] ?_
  obtain ⟨x2,hx2,h⟩:=bsome h
  refine One' hT rfl (v_index s_string .opt a0 .i64 i1 hx2) ?_
  refine Sgd hT 1 [0,1,5,7,8,11,15] [(15,vw x2)] ?_
  obtain ⟨r3,hr3,h⟩:=bsome h
  refine Pt' en75 (cost_touches_1_ok hr3) ?_
  refine Szd hT 0 [0,1,5,7,8,16] [(16,vb r3)] ?_
  refine Ci h (fun h=>?_) fun h=>?_
  ·refine Qz hT 2 [4] ⟨[(4,vi i1)],[],1⟩ ?_
   obtain rfl:=Option.some.inj h
   exact rK [4] [] ⟨[(4,vi i1)],[],1⟩ ⟨by kernel_rfl,rfl⟩
  refine WA_skip ?_
  refine Rgd hT 2 [0,1,7,8] [(8,vi (wr (i1 + 1)))] ?_
  exact oK [0,1,7,8] [] ⟨_,by omega,by omega,wr (i1 + 1),h,rfl⟩
 refine WA_exit ?_
 refine Qz hT 1 [4] ⟨[(4,vi (-1))],[],1⟩ ?_
 obtain rfl:=Option.some.inj h
 exact rK [4] [] ⟨[(4,vi (-1))],[],1⟩ ⟨by kernel_rfl,rfl⟩
theorem ContainsFunc_string_fcost_touches_1_ok {n : Nat} {a0 : List ByteArray} {a1c0 : List ByteArray} {r : Bool} (h : ContainsFunc_string_fcost_touches_1 n a0 a1c0 = some r) : PT Tryz.prog 73 [po s_string a0,.fn 75 [] [.ref (el_string a1c0) 0]] (vb r):=by
 unfold ContainsFunc_string_fcost_touches_1 at h
 refine PT_bodyA hT Tryz.func73 rfl (by kernel_rfl) fun bad w=>?_
 refine Qzd hT 1 [0,1] [] ?_
 refine Qg hT 2 [5,6] ⟨[(5,po s_string a0),(6,.fn 75 [] [.ref (el_string a1c0) 0])],[],0⟩ ?_
 obtain ⟨r1,hr1,h⟩:=bsome h
 refine Pt' en95 (IndexFunc_string_fcost_touches_1_ok hr1) ?_
 refine Sz hT 2 [4] ⟨[(4,vb (decide (r1 ≥ 0)))],[],0⟩ ?_
 obtain rfl:=Option.some.inj h
 exact rK [4] [] ⟨[(4,vb (decide (r1 ≥ 0)))],[],1⟩ ⟨by kernel_rfl,rfl⟩
theorem cost_touches_ok {n : Nat} {a0 : Stmt} {a1 : List ByteArray} {r : Bool} (h : cost_touches n a0 a1 = some r) : PT Tryz.prog 45 [eStmt a0,po s_string a1] (vb r):=by
 unfold cost_touches at h
 refine PT_bodyA hT Tryz.func45 rfl (by kernel_rfl) fun bad w=>?_
 refine Qz hT 3 [2,3] ⟨[(2,bx 2 0),(3,bx 3 1)],[(3,cb 1 47 1 (po s_string a1)),(2,cb 0 94 11 (eStmt a0))],2⟩ ?_
 refine Qgd hT 1 [3,5] [(5,eStmt a0)] ?_
 obtain ⟨r1,hr1,h⟩:=bsome h
 refine Pt' en74 (tree_Touches_ok hr1) ?_
 refine Sgd hT 1 [6,7] [(6,.ps .fopt (s_string.F r1)),(7,.fn 75 [] [bx 3 1])] ?_
 obtain ⟨r2,hr2,h⟩:=bsome h
 refine Ob [3] [.ps .fopt (s_string.F r1),.fn 75 [] [bx 3 1]] [.ps .fopt (s_string.F r1),.fn 75 [] [.ref (el_string a1) 0]] (vb r2) en73 (PT_args ((ContainsFunc_string_fcost_touches_1_ok hr2)) ⟨VLe.fopt_opt,VLe.refl _,trivial⟩) ?_
 refine Szd hT 1 [4] [(4,vb r2)] ?_
 obtain rfl:=Option.some.inj h
 exact rK [4] [] ⟨[(4,vb r2)],[],1⟩ ⟨by kernel_rfl,rfl⟩
theorem cost_size_ok {n : Nat} {a0 : Stmt} {r : Int} (h : cost_size n a0 = some r) : PT Tryz.prog 46 [eStmt a0] (vi r):=by
 unfold cost_size at h
 refine PT_bodyA hT Tryz.func46 rfl (by kernel_rfl) fun bad w=>?_
 refine Qz hT 2 [1] ⟨[(1,bx 1 0)],[(1,cb 0 94 11 (eStmt a0))],1⟩ ?_
 refine Qgd hT 1 [3] [(3,eStmt a0)] ?_
 refine One' hT rfl (ev_bslice s_Stmt 4 [a0] (by kernel_rfl)) ?_
 refine Sg hT 0 [4] ⟨[(4,vs 4 1 s_Stmt [a0])],[(4,⟨1,94,11,false,false,s_Stmt.F [a0]⟩),(1,cb 0 94 11 (eStmt a0))],2⟩ ?_
 refine WO_weak (wF 4 1 ⟨1,94,11,false,false,s_Stmt.F [a0]⟩ [(4,po s_Stmt [a0])] [(1,cb 0 94 11 (eStmt a0))] ⟨rfl,.hit true,trivial⟩ ⟨rfl,.inl rfl,trivial⟩) ?_
 refine Sg hT 1 [5] ⟨[(5,vs 5 2 s_LStmt [[a0]])],[(5,⟨2,53,1,false,false,s_LStmt.F [[a0]]⟩),(1,cb 0 94 11 (eStmt a0))],3⟩ ?_
 refine WO_weak (wF 5 2 ⟨2,53,1,false,false,s_LStmt.F [[a0]]⟩ [(5,po s_LStmt [[a0]])] [(1,cb 0 94 11 (eStmt a0))] ⟨rfl,.hit true,trivial⟩ ⟨rfl,.inl rfl,trivial⟩) ?_
 refine Sg hT 1 [6] ⟨[(6,.agg [vn,po s_LStmt [[a0]]])],[(1,cb 0 94 11 (eStmt a0))],3⟩ ?_
 obtain ⟨r1,hr1,h⟩:=bsome h
 refine Pt' (vs:=[.agg [vn,po s_LStmt [[a0]]]]) en44 (PT_args ((tree_List_ok hr1)) ⟨VLe.agg ⟨VLe.nil_opt,VLe.refl _,trivial⟩,trivial⟩) ?_
 refine Sgd hT 0 [7] [(7,.ps .fopt (s_Stmt.F r1))] ?_
 refine One' hT rfl (v_len s_Stmt .fopt r1) ?_
 refine Szd hT 1 [2] [(2,vi (ln r1))] ?_
 obtain rfl:=Option.some.inj h
 exact rK [2] [] ⟨[(2,vi (ln r1))],[],1⟩ ⟨by kernel_rfl,rfl⟩
theorem Clip_int_ok {n : Nat} {a0 : List Int} {r : List Int} (h : Clip_int n a0 = some r) : PT Tryz.prog 27 [po s_int a0] (.ps .fopt (s_int.F r)):=by
 unfold Clip_int at h
 refine PT_bodyA hT Tryz.func27 rfl (by kernel_rfl) fun bad w=>?_
 refine Qzd hT 1 [0] [] ?_
 refine Qgd hT 2 [0,3,4] [(3,po s_int a0),(4,po s_int a0)] ?_
 refine One' hT rfl (v_len s_int .opt a0) ?_
 refine Sgd hT 1 [3,5,6] [(5,vi (ln a0)),(6,po s_int a0)] ?_
 refine One' hT rfl (v_len s_int .opt a0) ?_
 refine Sgd hT 0 [3,5,7] [(7,vi (ln a0))] ?_
 obtain ⟨l1,hl1,h⟩:=bsome h
 refine One' hT rfl (v_slice s_int .opt a0 0 (ln a0) (some (ln a0)) l1 .fopt hl1 (by intro y hy; cases hy; rfl)) ?_
 refine Sz hT 1 [2] ⟨[(2,.ps .fopt (s_int.F l1))],[],0⟩ ?_
 obtain rfl:=Option.some.inj h
 exact rK [2] [] ⟨[(2,.ps .fopt (s_int.F l1))],[],1⟩ ⟨by kernel_rfl,rfl⟩
theorem cost_Wrapped_ok {n : Nat} {a0 : Prog} {a1 : List ByteArray} {r : List Int} (h : cost_Wrapped n a0 a1 = some r) : PT Tryz.prog 17 [eProg a0,po s_string a1] (.ps .fopt (s_int.F r)):=by
 unfold cost_Wrapped at h
 refine PT_bodyA hT Tryz.func17 rfl (by kernel_rfl) fun bad w=>?_
 refine Qzh hT 2 [1,2] [(2,bx 2 0)] [(2,cb 0 26 2 (eProg a0))] 1 ?_
 refine Qzd hT 1 [1,2,5] [(5,vn)] ?_
 refine Qgd hT 1 [1,5,8] [(8,eProg a0)] ?_
 obtain ⟨r1,hr1,h⟩:=bsome h
 refine Pt' en44 (tree_List_ok hr1) ?_
 refine Szd hT 1 [1,5,6] [(6,.ps .fopt (s_Stmt.F r1))] ?_
 refine WA_seq ?_
 refine Qzd hT 1 [1,5,6,7] [(7,vi 0)] ?_
 refine WA_block ?_
 refine aW [1,5,6,7] ⟨[(1,po s_string a1),(5,vn),(6,.ps .fopt (s_Stmt.F r1)),(7,vi 0)],[(2,cb 0 26 2 (eProg a0))],1⟩ ?_
 refine WA_weak (wO 5 5000 3 1) ?_
 refine lK [1,5,6,7] [(5000,10005,0)] (fun k s=>∃ q,q ≤ k ∧ q ≤ n ∧ ∃ (l2 : List Int),∃ (i3 : Int),cost_Wrapped_L0 q a0 a1 r1 l2 i3 = some r ∧ s = ⟨[(1,po s_string a1),(5,vs 10005 0 s_int l2),(6,.ps .fopt (s_Stmt.F r1)),(7,vi i3)],[(10005,rb 0 s_int l2)],1⟩) n ⟨n,Nat.le_refl _,Nat.le_refl _,([] : List Int),0,h,rfl⟩ (by rintro s ⟨q,hq,_,l2,i3,h,_⟩; obtain rfl:=Nat.le_zero.1 hq; rw [cost_Wrapped_L0] at h; cases h) ?_
 clear h
 rintro k1 s ⟨q1,hk1,hn1,l2,i3,h,rfl⟩
 rcases q1 with _ | q1
 ·rw [cost_Wrapped_L0] at h; cases h
 rw [cost_Wrapped_L0] at h
 refine WA_seq ?_
 refine Qgd hT 2 [1,5,6,7,10,11] [(10,vi i3),(11,.ps .fopt (s_Stmt.F r1))] ?_
 refine One' hT rfl (v_len s_Stmt .fopt r1) ?_
 refine Szd hT 1 [1,5,6,7,13] [(13,vb (decide (i3 < (ln r1))))] ?_
 refine Ci h (fun h=>?_) fun h=>?_
 ·refine WA_skip ?_
  refine WA_block ?_
  refine Qgd hT 2 [1,5,6,7,14,15] [(14,.ps .fopt (s_Stmt.F r1)),(15,vi i3)] ?_
  obtain ⟨x4,hx4,h⟩:=bsome h
  refine One' hT rfl (v_index s_Stmt .fopt r1 .i64 i3 hx4) ?_
  refine Sgd hT 2 [1,5,6,7,17,18] [(17,eStmt x4),(18,po s_string a1)] ?_
  obtain ⟨r5,hr5,h⟩:=bsome h
  refine Pt' en45 (cost_touches_ok hr5) ?_
  refine Szd hT 0 [1,5,6,7,19] [(19,vb r5)] ?_
  refine Ci h (fun h=>?_) fun h=>?_
  ·refine Qgh hT 3 [1,6,7,20,22] [(20,vs 10005 0 s_int l2),(22,vs 22 1 s_int [i3])] [(22,⟨1,3,1,false,false,s_int.F [i3]⟩),(10005,rb 0 s_int l2)] 2 ?_
   obtain ⟨g6,h⟩:=gsome h
   refine Oa hT s_int 10005 0 true l2 [i3] (eO s_int 22 1 true ⟨1,3,1,false,false,s_int.F [i3]⟩ [i3]) g6 ?_
   refine Szh hT 1 [1,5,6,7] [(5,vs 23 2 s_int (l2 ++ [i3]))] [(23,rb 2 s_int (l2 ++ [i3])),(22,⟨1,3,1,false,false,s_int.F [i3]⟩)] 3 ?_
   refine Rgd hT 3 [1,5,6,24,25,26] [(24,vi i3),(25,.ps .fopt (s_Stmt.F r1)),(26,vi i3)] ?_
   obtain ⟨x7,hx7,h⟩:=bsome h
   refine One' hT rfl (v_index s_Stmt .fopt r1 .i64 i3 hx7) ?_
   refine Sg hT 1 [1,5,6,24,28] ⟨[(1,po s_string a1),(5,vs 23 2 s_int (l2 ++ [i3])),(6,.ps .fopt (s_Stmt.F r1)),(24,vi i3),(28,eStmt x7)],[(23,rb 2 s_int (l2 ++ [i3])),(22,⟨1,3,1,false,false,s_int.F [i3]⟩)],3⟩ ?_
   obtain ⟨r8,hr8,h⟩:=bsome h
   refine Pt' en46 (cost_size_ok hr8) ?_
   refine Sgd hT 2 [1,5,6,7] [(7,vi (wr (i3 + r8)))] ?_
   exact oK [1,5,6,7] [(23,10005,0)] ⟨_,by omega,by omega,l2 ++ [i3],wr (i3 + r8),h,rfl⟩
  refine Rgd hT 3 [1,5,6,7] [(7,vi (wr (i3 + 1)))] ?_
  exact oK [1,5,6,7] [(10005,10005,0)] ⟨_,by omega,by omega,l2,wr (i3 + 1),h,rfl⟩
 refine WA_exit ?_
 refine Qgd hT 1 [33] [(33,vs 10005 0 s_int l2)] ?_
 refine WO_weak (wF 10005 0 (rb 0 s_int l2) [(33,po s_int l2)] [] ⟨rfl,.hit true,trivial⟩ trivial) ?_
 obtain ⟨r9,hr9,h⟩:=bsome h
 refine Pt' en27 (Clip_int_ok hr9) ?_
 refine Sz hT 1 [4] ⟨[(4,.ps .fopt (s_int.F r9))],[],1⟩ ?_
 obtain rfl:=Option.some.inj h
 exact rK [4] [] ⟨[(4,.ps .fopt (s_int.F r9))],[],1⟩ ⟨by kernel_rfl,rfl⟩
theorem rank_ends_ok {n : Nat} {a0 : Prog} {r : List Int} (h : rank_ends n a0 = some r) : GO Tryz.prog 18 [] [eProg a0] (vs 100 1 s_int r) [(100,rb 1 s_int r)]:=by
 unfold rank_ends at h
 refine GO_bodyA hT Tryz.func18 rfl [] (by kernel_rfl) fun bad w m=>?_
 refine Qz hT 2 [1] ⟨[(1,bx 1 1)],[(1,cb 1 26 2 (eProg a0))],2⟩ ?_
 refine Qzd hT 1 [1,3] [(3,vn)] ?_
 refine WA_seq ?_
 refine Qgd hT 1 [3,6] [(6,eProg a0)] ?_
 obtain ⟨r1,hr1,h⟩:=bsome h
 refine Pt' en44 (tree_List_ok hr1) ?_
 refine Sgd hT 0 [3,7] [(7,.ps .fopt (s_Stmt.F r1))] ?_
 refine One' hT rfl (v_len s_Stmt .fopt r1) ?_
 refine Szd hT 1 [3,7,8,9] [(8,vi (ln r1)),(9,vi 0)] ?_
 refine WA_block ?_
 refine aW [3,7,8,9] ⟨[(3,vn),(7,.ps .fopt (s_Stmt.F r1)),(8,vi (ln r1)),(9,vi 0)],[(1,cb 1 26 2 (eProg a0))],2⟩ ?_
 refine WA_weak (wO 3 5000 3 1) ?_
 refine lK [3,7,8,9] [(5000,10003,1)] (fun k s=>∃ q,q ≤ k ∧ q ≤ n ∧ ∃ (l2 : List Int),∃ (i3 : Int),rank_ends_L0 q a0 r1 l2 i3 = some r ∧ s = ⟨[(3,vs 10003 1 s_int l2),(7,.ps .fopt (s_Stmt.F r1)),(8,vi (ln r1)),(9,vi i3)],[(10003,rb 1 s_int l2)],2⟩) n ⟨n,Nat.le_refl _,Nat.le_refl _,([] : List Int),0,h,rfl⟩ (by rintro s ⟨q,hq,_,l2,i3,h,_⟩; obtain rfl:=Nat.le_zero.1 hq; rw [rank_ends_L0] at h; cases h) ?_
 clear h
 rintro k1 s ⟨q1,hk1,hn1,l2,i3,h,rfl⟩
 rcases q1 with _ | q1
 ·rw [rank_ends_L0] at h; cases h
 rw [rank_ends_L0] at h
 refine Qz hT 1 [3,7,8,9,10] ⟨[(3,vs 10003 1 s_int l2),(7,.ps .fopt (s_Stmt.F r1)),(8,vi (ln r1)),(9,vi i3),(10,vb (decide (i3 < (ln r1))))],[(10003,rb 1 s_int l2)],2⟩ ?_
 refine WA_seq ?_
 refine Ci h (fun h=>?_) fun h=>?_
 ·refine WA_skip ?_
  refine WA_seq ?_
  refine WA_block ?_
  refine Qgd hT 1 [3,7,8,9,11] [(11,vi i3)] ?_
  obtain ⟨x4,hx4,h⟩:=bsome h
  refine One' hT rfl (v_index s_Stmt .fopt r1 .i64 i3 hx4) ?_
  refine Szh hT 4 [3,4,5,7,8,9] [(4,vi i3),(5,bx 5 2)] [(5,cb 2 94 11 (eStmt x4)),(10003,rb 1 s_int l2)] 3 ?_
  refine Rgd hT 3 [7,8,9,14,15,16] [(14,vs 10003 1 s_int l2),(15,vi i3),(16,eStmt x4)] ?_
  refine One' hT rfl (ev_bslice s_Stmt 17 [x4] (by kernel_rfl)) ?_
  refine Sgh hT 0 [7,8,9,14,15,17] [(17,vs 17 3 s_Stmt [x4])] [(17,⟨3,94,11,false,false,s_Stmt.F [x4]⟩),(5,cb 2 94 11 (eStmt x4)),(10003,rb 1 s_int l2)] 4 ?_
  refine WO_weak (wF 17 3 ⟨3,94,11,false,false,s_Stmt.F [x4]⟩ [(7,.ps .fopt (s_Stmt.F r1)),(8,vi (ln r1)),(9,vi i3),(14,vs 10003 1 s_int l2),(15,vi i3),(17,po s_Stmt [x4])] [(5,cb 2 94 11 (eStmt x4)),(10003,rb 1 s_int l2)] ⟨rfl,.keep _,rfl,.keep _,rfl,.keep _,rfl,.keep _,rfl,.keep _,rfl,.hit true,trivial⟩ ⟨rfl,.inl rfl,rfl,.inl rfl,trivial⟩) ?_
  refine Sgh hT 1 [7,8,9,14,15,18] [(18,vs 18 4 s_LStmt [[x4]])] [(18,⟨4,53,1,false,false,s_LStmt.F [[x4]]⟩),(5,cb 2 94 11 (eStmt x4)),(10003,rb 1 s_int l2)] 5 ?_
  refine WO_weak (wF 18 4 ⟨4,53,1,false,false,s_LStmt.F [[x4]]⟩ [(7,.ps .fopt (s_Stmt.F r1)),(8,vi (ln r1)),(9,vi i3),(14,vs 10003 1 s_int l2),(15,vi i3),(18,po s_LStmt [[x4]])] [(5,cb 2 94 11 (eStmt x4)),(10003,rb 1 s_int l2)] ⟨rfl,.keep _,rfl,.keep _,rfl,.keep _,rfl,.keep _,rfl,.keep _,rfl,.hit true,trivial⟩ ⟨rfl,.inl rfl,rfl,.inl rfl,trivial⟩) ?_
  refine Sgh hT 1 [7,8,9,14,15,19] [(19,.agg [vn,po s_LStmt [[x4]]])] [(5,cb 2 94 11 (eStmt x4)),(10003,rb 1 s_int l2)] 5 ?_
  obtain ⟨r5,hr5,h⟩:=bsome h
  refine Pt' (vs:=[.agg [vn,po s_LStmt [[x4]]]]) en44 (PT_args ((tree_List_ok hr5)) ⟨VLe.agg ⟨VLe.nil_opt,VLe.refl _,trivial⟩,trivial⟩) ?_
  refine Sgd hT 0 [7,8,9,14,15,20] [(20,.ps .fopt (s_Stmt.F r5))] ?_
  refine One' hT rfl (v_len s_Stmt .fopt r5) ?_
  refine Sgh hT 2 [7,8,9,14,23] [(23,vs 23 5 s_int [wr (i3 + (ln r5))])] [(23,⟨5,3,1,false,false,s_int.F [wr (i3 + (ln r5))]⟩),(5,cb 2 94 11 (eStmt x4)),(10003,rb 1 s_int l2)] 6 ?_
  obtain ⟨g6,h⟩:=gsome h
  refine Oa hT s_int 10003 1 true l2 [wr (i3 + (ln r5))] (eO s_int 23 5 true ⟨5,3,1,false,false,s_int.F [wr (i3 + (ln r5))]⟩ [wr (i3 + (ln r5))]) g6 ?_
  refine Sz hT 1 [3,7,8,9] ⟨[(3,vs 24 6 s_int (l2 ++ [wr (i3 + (ln r5))])),(7,.ps .fopt (s_Stmt.F r1)),(8,vi (ln r1)),(9,vi i3)],[(24,rb 6 s_int (l2 ++ [wr (i3 + (ln r5))])),(23,⟨5,3,1,false,false,s_int.F [wr (i3 + (ln r5))]⟩),(5,cb 2 94 11 (eStmt x4))],7⟩ ?_
  refine Rgd hT 2 [3,7,8,9] [(9,vi (wr (i3 + 1)))] ?_
  exact oK [3,7,8,9] [(24,10003,1)] ⟨_,by omega,by omega,l2 ++ [wr (i3 + (ln r5))],wr (i3 + 1),h,rfl⟩
 refine WA_exit ?_
 refine Qzd hT 2 [2] [(2,vs 10003 1 s_int l2)] ?_
 obtain rfl:=Option.some.inj h
 exact rK [2] [(10003,100,1)] ⟨[(2,vs 100 1 s_int l2)],[(100,rb 1 s_int l2)],2⟩ ⟨by kernel_rfl,by kernel_rfl,rfl⟩
theorem rank_within_1_1_ok {n : Nat} {a0 : Int} {a1 : Int} {a2 : List Int} {r : Bool} (h : rank_within_1_1 n a0 a1 a2 = some r) : PT Tryz.prog 49 [vi a0,.ref (e_i64 a1) 0,.ref (el_int a2) 0] (vb r):=by
 unfold rank_within_1_1 at h
 refine PT_bodyA hT Tryz.func49 rfl (by kernel_rfl) fun bad w=>?_
 refine Qzd hT 1 [0,1,2] [] ?_
 refine WA_seq ?_
 obtain ⟨J2,hJ2,h⟩:=jsome h
 refine WA_join (fun s=>∃ (b1 : Bool),J2 b1 = some r ∧ s = ⟨[(4,vb b1)],[],1⟩) ?_ ?_
 ·refine WA_drawW hT hM (by kernel_rfl) ?_
  refine Ds 4 [(8,vb (decide (a0 < a1))),(7,vb (decide (a0 < a1))),(6,vi a1),(5,vi a0)] [] [] ?_
  cases hb : (decide (a0 < a1) : Bool)
  ·replace h:=cfalse hb h
   refine Ds 8 [(4,vb false),(15,vb false),(14,vU),(13,vU),(12,vU),(11,vU),(10,vU),(9,vU)] [] [] ?_
   refine De ?_
   exact wK [4] [] ⟨false,h,rfl⟩
  replace h:=ctrue hb h
  refine Ds 3 [(11,vi a0),(10,po s_int a2),(9,vi a1)] [] [] ?_
  obtain ⟨x3,hx3,h⟩:=bsome h
  refine Dl rfl (v_index s_int .opt a2 .i64 a0 hx3) ?_
  refine Dt (.ref (e_i64 x3) 0) ?_
  refine Ds 4 [(4,vb (decide (a1 < x3))),(15,vb (decide (a1 < x3))),(14,vb (decide (a1 < x3))),(13,vi x3)] [] [] ?_
  refine De ?_
  exact wK [4] [] ⟨decide (a1 < x3),h,rfl⟩
 subst hJ2
 rintro s ⟨b1,h,rfl⟩
 obtain rfl:=Option.some.inj h
 exact rK [4] [] ⟨[(4,vb b1)],[],1⟩ ⟨by kernel_rfl,rfl⟩
theorem IndexFunc_int_frank_within_1_1_ok {n : Nat} {a0 : List Int} {a1c0 : Int} {a1c1 : List Int} {r : Int} (h : IndexFunc_int_frank_within_1_1 n a0 a1c0 a1c1 = some r) : PT Tryz.prog 77 [po s_int a0,.fn 49 [] [.ref (e_i64 a1c0) 0,.ref (el_int a1c1) 0]] (vi r):=by
 unfold IndexFunc_int_frank_within_1_1 at h
 refine PT_bodyA hT Tryz.func77 rfl (by kernel_rfl) fun bad w=>?_
 refine Qzd hT 1 [0,1] [] ?_
 refine WA_seq ?_
 refine Qgd hT 1 [0,1,6] [(6,po s_int a0)] ?_
 refine One' hT rfl (v_len s_int .opt a0) ?_
 refine Szd hT 1 [0,1,7,8] [(7,vi (ln a0)),(8,vi 0)] ?_
 refine WA_block ?_
 refine lK [0,1,7,8] [] (fun k s=>∃ q,q ≤ k ∧ q ≤ n ∧ ∃ (i1 : Int),IndexFunc_int_frank_within_1_1_L0 q a0 a1c0 a1c1 i1 = some r ∧ s = ⟨[(0,po s_int a0),(1,.fn 49 [] [.ref (e_i64 a1c0) 0,.ref (el_int a1c1) 0]),(7,vi (ln a0)),(8,vi i1)],[],1⟩) n ⟨n,Nat.le_refl _,Nat.le_refl _,0,h,rfl⟩ (by rintro s ⟨q,hq,_,i1,h,_⟩; obtain rfl:=Nat.le_zero.1 hq; rw [IndexFunc_int_frank_within_1_1_L0] at h; cases h) ?_
 clear h
 rintro k1 s ⟨q1,hk1,hn1,i1,h,rfl⟩
 rcases q1 with _ | q1
 ·rw [IndexFunc_int_frank_within_1_1_L0] at h; cases h
 rw [IndexFunc_int_frank_within_1_1_L0] at h
 refine Qzd hT 1 [0,1,7,8,9] [(9,vb (decide (i1 < (ln a0))))] ?_
 refine WA_seq ?_
 refine Ci h (fun h=>?_) fun h=>?_
 ·refine WA_skip ?_
  refine WA_seq ?_
  refine WA_block ?_
  refine Qzd hT 2 [0,1,5,7,8] [(5,vi i1)] ?_
  refine Qgd hT 3 [0,1,5,7,8,11,12,13] [(11,.fn 49 [] [.ref (e_i64 a1c0) 0,.ref (el_int a1c1) 0]),(12,po s_int a0),(13,vi i1)] ?_
  obtain ⟨x2,hx2,h⟩:=bsome h
  refine One' hT rfl (v_index s_int .opt a0 .i64 i1 hx2) ?_
  refine Sgd hT 1 [0,1,5,7,8,11,15] [(15,vi x2)] ?_
  obtain ⟨r3,hr3,h⟩:=bsome h
  refine Pt' en49 (rank_within_1_1_ok hr3) ?_
  refine Szd hT 0 [0,1,5,7,8,16] [(16,vb r3)] ?_
  refine Ci h (fun h=>?_) fun h=>?_
  ·refine Qz hT 2 [4] ⟨[(4,vi i1)],[],1⟩ ?_
   obtain rfl:=Option.some.inj h
   exact rK [4] [] ⟨[(4,vi i1)],[],1⟩ ⟨by kernel_rfl,rfl⟩
  refine WA_skip ?_
  refine Rgd hT 2 [0,1,7,8] [(8,vi (wr (i1 + 1)))] ?_
  exact oK [0,1,7,8] [] ⟨_,by omega,by omega,wr (i1 + 1),h,rfl⟩
 refine WA_exit ?_
 refine Qz hT 1 [4] ⟨[(4,vi (-1))],[],1⟩ ?_
 obtain rfl:=Option.some.inj h
 exact rK [4] [] ⟨[(4,vi (-1))],[],1⟩ ⟨by kernel_rfl,rfl⟩
theorem ContainsFunc_int_frank_within_1_1_ok {n : Nat} {a0 : List Int} {a1c0 : Int} {a1c1 : List Int} {r : Bool} (h : ContainsFunc_int_frank_within_1_1 n a0 a1c0 a1c1 = some r) : PT Tryz.prog 47 [po s_int a0,.fn 49 [] [.ref (e_i64 a1c0) 0,.ref (el_int a1c1) 0]] (vb r):=by
 unfold ContainsFunc_int_frank_within_1_1 at h
 refine PT_bodyA hT Tryz.func47 rfl (by kernel_rfl) fun bad w=>?_
 refine Qzd hT 1 [0,1] [] ?_
 refine Qg hT 2 [5,6] ⟨[(5,po s_int a0),(6,.fn 49 [] [.ref (e_i64 a1c0) 0,.ref (el_int a1c1) 0])],[],0⟩ ?_
 obtain ⟨r1,hr1,h⟩:=bsome h
 refine Pt' en77 (IndexFunc_int_frank_within_1_1_ok hr1) ?_
 refine Sz hT 2 [4] ⟨[(4,vb (decide (r1 ≥ 0)))],[],0⟩ ?_
 obtain rfl:=Option.some.inj h
 exact rK [4] [] ⟨[(4,vb (decide (r1 ≥ 0)))],[],1⟩ ⟨by kernel_rfl,rfl⟩
theorem rank_within_1_ok {n : Nat} {a0 : Int} {a1 : List Int} {a2 : List Int} {r : Bool} (h : rank_within_1 n a0 a1 a2 = some r) : PT Tryz.prog 48 [vi a0,.ref (el_int a1) 0,.ref (el_int a2) 0] (vb r):=by
 unfold rank_within_1 at h
 refine PT_bodyA hT Tryz.func48 rfl (by kernel_rfl) fun bad w=>?_
 refine Qzh hT 2 [1,2,3] [(3,bx 3 0)] [(3,cb 0 3 1 (vi a0))] 1 ?_
 refine Qgd hT 2 [5,6] [(5,po s_int a1),(6,.fn 49 [] [bx 3 0,.ref (el_int a2) 0])] ?_
 obtain ⟨r1,hr1,h⟩:=bsome h
 refine Ob [3] [po s_int a1,.fn 49 [] [bx 3 0,.ref (el_int a2) 0]] [po s_int a1,.fn 49 [] [.ref (e_i64 a0) 0,.ref (el_int a2) 0]] (vb r1) en47 (ContainsFunc_int_frank_within_1_1_ok hr1) ?_
 refine Szd hT 1 [4] [(4,vb r1)] ?_
 obtain rfl:=Option.some.inj h
 exact rK [4] [] ⟨[(4,vb r1)],[],1⟩ ⟨by kernel_rfl,rfl⟩
theorem IndexFunc_int_frank_within_1_ok {n : Nat} {a0 : List Int} {a1c0 : List Int} {a1c1 : List Int} {r : Int} (h : IndexFunc_int_frank_within_1 n a0 a1c0 a1c1 = some r) : PT Tryz.prog 77 [po s_int a0,.fn 48 [] [.ref (el_int a1c0) 0,.ref (el_int a1c1) 0]] (vi r):=by
 unfold IndexFunc_int_frank_within_1 at h
 refine PT_bodyA hT Tryz.func77 rfl (by kernel_rfl) fun bad w=>?_
 refine Qzd hT 1 [0,1] [] ?_
 refine WA_seq ?_
 refine Qgd hT 1 [0,1,6] [(6,po s_int a0)] ?_
 refine One' hT rfl (v_len s_int .opt a0) ?_
 refine Szd hT 1 [0,1,7,8] [(7,vi (ln a0)),(8,vi 0)] ?_
 refine WA_block ?_
 refine lK [0,1,7,8] [] (fun k s=>∃ q,q ≤ k ∧ q ≤ n ∧ ∃ (i1 : Int),IndexFunc_int_frank_within_1_L0 q a0 a1c0 a1c1 i1 = some r ∧ s = ⟨[(0,po s_int a0),(1,.fn 48 [] [.ref (el_int a1c0) 0,.ref (el_int a1c1) 0]),(7,vi (ln a0)),(8,vi i1)],[],1⟩) n ⟨n,Nat.le_refl _,Nat.le_refl _,0,h,rfl⟩ (by rintro s ⟨q,hq,_,i1,h,_⟩; obtain rfl:=Nat.le_zero.1 hq; rw [IndexFunc_int_frank_within_1_L0] at h; cases h) ?_
 clear h
 rintro k1 s ⟨q1,hk1,hn1,i1,h,rfl⟩
 rcases q1 with _ | q1
 ·rw [IndexFunc_int_frank_within_1_L0] at h; cases h
 rw [IndexFunc_int_frank_within_1_L0] at h
 refine Qzd hT 1 [0,1,7,8,9] [(9,vb (decide (i1 < (ln a0))))] ?_
 refine WA_seq ?_
 refine Ci h (fun h=>?_) fun h=>?_
 ·refine WA_skip ?_
  refine WA_seq ?_
  refine WA_block ?_
  refine Qzd hT 2 [0,1,5,7,8] [(5,vi i1)] ?_
  refine Qgd hT 3 [0,1,5,7,8,11,12,13] [(11,.fn 48 [] [.ref (el_int a1c0) 0,.ref (el_int a1c1) 0]),(12,po s_int a0),(13,vi i1)] ?_
  obtain ⟨x2,hx2,h⟩:=bsome h
  refine One' hT rfl (v_index s_int .opt a0 .i64 i1 hx2) ?_
  refine Sgd hT 1 [0,1,5,7,8,11,15] [(15,vi x2)] ?_
  obtain ⟨r3,hr3,h⟩:=bsome h
  refine Pt' en48 (rank_within_1_ok hr3) ?_
  refine Szd hT 0 [0,1,5,7,8,16] [(16,vb r3)] ?_
  refine Ci h (fun h=>?_) fun h=>?_
  ·refine Qz hT 2 [4] ⟨[(4,vi i1)],[],1⟩ ?_
   obtain rfl:=Option.some.inj h
   exact rK [4] [] ⟨[(4,vi i1)],[],1⟩ ⟨by kernel_rfl,rfl⟩
  refine WA_skip ?_
  refine Rgd hT 2 [0,1,7,8] [(8,vi (wr (i1 + 1)))] ?_
  exact oK [0,1,7,8] [] ⟨_,by omega,by omega,wr (i1 + 1),h,rfl⟩
 refine WA_exit ?_
 refine Qz hT 1 [4] ⟨[(4,vi (-1))],[],1⟩ ?_
 obtain rfl:=Option.some.inj h
 exact rK [4] [] ⟨[(4,vi (-1))],[],1⟩ ⟨by kernel_rfl,rfl⟩
theorem ContainsFunc_int_frank_within_1_ok {n : Nat} {a0 : List Int} {a1c0 : List Int} {a1c1 : List Int} {r : Bool} (h : ContainsFunc_int_frank_within_1 n a0 a1c0 a1c1 = some r) : PT Tryz.prog 47 [po s_int a0,.fn 48 [] [.ref (el_int a1c0) 0,.ref (el_int a1c1) 0]] (vb r):=by
 unfold ContainsFunc_int_frank_within_1 at h
 refine PT_bodyA hT Tryz.func47 rfl (by kernel_rfl) fun bad w=>?_
 refine Qzd hT 1 [0,1] [] ?_
 refine Qg hT 2 [5,6] ⟨[(5,po s_int a0),(6,.fn 48 [] [.ref (el_int a1c0) 0,.ref (el_int a1c1) 0])],[],0⟩ ?_
 obtain ⟨r1,hr1,h⟩:=bsome h
 refine Pt' en77 (IndexFunc_int_frank_within_1_ok hr1) ?_
 refine Sz hT 2 [4] ⟨[(4,vb (decide (r1 ≥ 0)))],[],0⟩ ?_
 obtain rfl:=Option.some.inj h
 exact rK [4] [] ⟨[(4,vb (decide (r1 ≥ 0)))],[],1⟩ ⟨by kernel_rfl,rfl⟩
theorem rank_within_ok {n : Nat} {a0 : List Int} {a1 : List Int} {a2 : List Int} {r : Bool} (h : rank_within n a0 a1 a2 = some r) : PT Tryz.prog 19 [po s_int a0,po s_int a1,po s_int a2] (vb r):=by
 unfold rank_within at h
 refine PT_bodyA hT Tryz.func19 rfl (by kernel_rfl) fun bad w=>?_
 refine Qzh hT 3 [0,4,5] [(4,bx 4 0),(5,bx 5 1)] [(5,cb 1 33 1 (po s_int a2)),(4,cb 0 33 1 (po s_int a1))] 2 ?_
 refine Qgd hT 2 [7,8] [(7,po s_int a0),(8,.fn 48 [] [bx 4 0,bx 5 1])] ?_
 obtain ⟨r1,hr1,h⟩:=bsome h
 refine Ob [4,5] [po s_int a0,.fn 48 [] [bx 4 0,bx 5 1]] [po s_int a0,.fn 48 [] [.ref (el_int a1) 0,.ref (el_int a2) 0]] (vb r1) en47 (ContainsFunc_int_frank_within_1_ok hr1) ?_
 refine Szd hT 1 [6] [(6,vb r1)] ?_
 obtain rfl:=Option.some.inj h
 exact rK [6] [] ⟨[(6,vb r1)],[],1⟩ ⟨by kernel_rfl,rfl⟩
theorem Clip_2int_ok {n : Nat} {a0 : List Arr2_i64} {r : List Arr2_i64} (h : Clip_2int n a0 = some r) : PT Tryz.prog 20 [po s_Arr2_i64 a0] (.ps .fopt (s_Arr2_i64.F r)):=by
 unfold Clip_2int at h
 refine PT_bodyA hT Tryz.func20 rfl (by kernel_rfl) fun bad w=>?_
 refine Qzd hT 1 [0] [] ?_
 refine Qgd hT 2 [0,3,4] [(3,po s_Arr2_i64 a0),(4,po s_Arr2_i64 a0)] ?_
 refine One' hT rfl (v_len s_Arr2_i64 .opt a0) ?_
 refine Sgd hT 1 [3,5,6] [(5,vi (ln a0)),(6,po s_Arr2_i64 a0)] ?_
 refine One' hT rfl (v_len s_Arr2_i64 .opt a0) ?_
 refine Sgd hT 0 [3,5,7] [(7,vi (ln a0))] ?_
 obtain ⟨l1,hl1,h⟩:=bsome h
 refine One' hT rfl (v_slice s_Arr2_i64 .opt a0 0 (ln a0) (some (ln a0)) l1 .fopt hl1 (by intro y hy; cases hy; rfl)) ?_
 refine Sz hT 1 [2] ⟨[(2,.ps .fopt (s_Arr2_i64.F l1))],[],0⟩ ?_
 obtain rfl:=Option.some.inj h
 exact rK [2] [] ⟨[(2,.ps .fopt (s_Arr2_i64.F l1))],[],1⟩ ⟨by kernel_rfl,rfl⟩
theorem rank_Inside_ok {n : Nat} {a0 : Prog} {a1 : List (List ByteArray)} {r : List Arr2_i64} (h : rank_Inside n a0 a1 = some r) : PT Tryz.prog 7 [eProg a0,po s_Lstring a1] (.ps .fopt (s_Arr2_i64.F r)):=by
 unfold rank_Inside at h
 refine PT_bodyA hT Tryz.func7 rfl (by kernel_rfl) fun bad w=>?_
 refine Qzh hT 2 [1,2] [(2,bx 2 0)] [(2,cb 0 26 2 (eProg a0))] 1 ?_
 refine Qzd hT 1 [1,2,5] [(5,vn)] ?_
 refine Qzd hT 1 [1,2,5,6] [(6,vn)] ?_
 refine WA_seq ?_
 refine Qgd hT 1 [1,2,5,6,12] [(12,po s_Lstring a1)] ?_
 refine One' hT rfl (v_len s_Lstring .opt a1) ?_
 refine Sz hT 1 [1,2,5,6,12,13,14] ⟨[(1,po s_Lstring a1),(2,bx 2 0),(5,vn),(6,vn),(12,po s_Lstring a1),(13,vi (ln a1)),(14,vi 0)],[(2,cb 0 26 2 (eProg a0))],1⟩ ?_
 refine WA_block ?_
 refine aW [1,2,5,6,12,13,14] ⟨[(1,po s_Lstring a1),(2,bx 2 0),(5,vn),(6,vn),(12,po s_Lstring a1),(13,vi (ln a1)),(14,vi 0)],[(2,cb 0 26 2 (eProg a0))],1⟩ ?_
 refine WA_weak (wO 6 5000 33 1) ?_
 refine lK [1,2,5,6,12,13,14] [(2,2,0),(5000,10006,0)] (fun k s=>∃ q,q ≤ k ∧ q ≤ n ∧ ∃ (l1 : List (List Int)),∃ (i2 : Int),rank_Inside_L0 q a0 a1 l1 i2 = some r ∧ s = ⟨[(1,po s_Lstring a1),(2,bx 2 0),(5,vn),(6,vs 10006 0 s_Lint l1),(12,po s_Lstring a1),(13,vi (ln a1)),(14,vi i2)],[(2,cb 0 26 2 (eProg a0)),(10006,rb 0 s_Lint l1)],1⟩) n ⟨n,Nat.le_refl _,Nat.le_refl _,([] : List (List Int)),0,h,rfl⟩ (by rintro s ⟨q,hq,_,l1,i2,h,_⟩; obtain rfl:=Nat.le_zero.1 hq; rw [rank_Inside_L0] at h; cases h) ?_
 clear h
 rintro k1 s ⟨q1,hk1,hn1,l1,i2,h,rfl⟩
 rcases q1 with _ | q1
 ·rw [rank_Inside_L0] at h; cases h
 rw [rank_Inside_L0] at h
 refine Qzd hT 1 [1,2,5,6,12,13,14,15] [(15,vb (decide (i2 < (ln a1))))] ?_
 refine WA_seq ?_
 refine Ci h (fun h=>?_) fun h=>?_
 ·refine WA_skip ?_
  refine WA_seq ?_
  refine WA_block ?_
  refine Qgd hT 0 [1,2,5,6,12,13,14] [] ?_
  obtain ⟨x3,hx3,h⟩:=bsome h
  refine One' hT rfl (v_index s_Lstring .opt a1 .i64 i2 hx3) ?_
  refine Szd hT 2 [1,2,5,6,8,12,13,14] [(8,po s_string x3)] ?_
  refine Rg hT 3 [1,2,5,12,13,14,18,19,20] ⟨[(1,po s_Lstring a1),(2,bx 2 0),(5,vn),(12,po s_Lstring a1),(13,vi (ln a1)),(14,vi i2),(18,vs 10006 0 s_Lint l1),(19,eProg a0),(20,po s_string x3)],[(2,cb 0 26 2 (eProg a0)),(10006,rb 0 s_Lint l1)],1⟩ ?_
  obtain ⟨r4,hr4,h⟩:=bsome h
  refine Pt' en17 (cost_Wrapped_ok hr4) ?_
  refine Sgh hT 1 [1,2,5,12,13,14,18,22] [(22,vs 22 1 s_Lint [r4])] [(22,⟨1,33,1,false,false,s_Lint.F [r4]⟩),(2,cb 0 26 2 (eProg a0)),(10006,rb 0 s_Lint l1)] 2 ?_
  obtain ⟨g5,h⟩:=gsome h
  refine Oa hT s_Lint 10006 0 true l1 [r4] (eO s_Lint 22 1 true ⟨1,33,1,false,false,s_Lint.F [r4]⟩ [r4]) g5 ?_
  refine Szh hT 1 [1,2,5,6,12,13,14] [(6,vs 23 2 s_Lint (l1 ++ [r4]))] [(23,rb 2 s_Lint (l1 ++ [r4])),(22,⟨1,33,1,false,false,s_Lint.F [r4]⟩),(2,cb 0 26 2 (eProg a0))] 3 ?_
  refine Rgd hT 2 [1,2,5,6,12,13,14] [(14,vi (wr (i2 + 1)))] ?_
  exact oK [1,2,5,6,12,13,14] [(2,2,0),(23,10006,0)] ⟨_,by omega,by omega,l1 ++ [r4],wr (i2 + 1),h,rfl⟩
 refine WA_exit ?_
 refine Qgd hT 1 [1,5,6,25] [(25,eProg a0)] ?_
 obtain ⟨r6,hr6,h⟩:=bsome h
 refine Og [] [(100,rb 1 s_int r6)] [eProg a0] [eProg a0] [] [(100,26,1)] [(26,rb 1 s_int r6)] (vs 100 1 s_int r6) (vs 26 1 s_int r6) 2 en18 (rank_ends_ok hr6) ?_
 refine Szh hT 1 [1,5,6,9] [(9,vs 26 1 s_int r6)] [(26,rb 1 s_int r6),(2,cb 0 26 2 (eProg a0)),(10006,rb 0 s_Lint l1)] 2 ?_
 refine WA_seq ?_
 refine Qgd hT 1 [1,5,6,9,27] [(27,po s_Lstring a1)] ?_
 refine One' hT rfl (v_len s_Lstring .opt a1) ?_
 refine Szd hT 1 [1,5,6,9,28,29] [(28,vi (ln a1)),(29,vi 0)] ?_
 refine WA_block ?_
 refine aW [1,5,6,9,28,29] ⟨[(1,po s_Lstring a1),(5,vn),(6,vs 10006 0 s_Lint l1),(9,vs 26 1 s_int r6),(28,vi (ln a1)),(29,vi 0)],[(26,rb 1 s_int r6),(2,cb 0 26 2 (eProg a0)),(10006,rb 0 s_Lint l1)],2⟩ ?_
 refine WA_weak (wF 26 1 (rb 1 s_int r6) [(1,po s_Lstring a1),(5,vn),(6,vs 10006 0 s_Lint l1),(9,po s_int r6),(28,vi (ln a1)),(29,vi 0)] [(2,cb 0 26 2 (eProg a0)),(10006,rb 0 s_Lint l1)] ⟨rfl,.keep _,rfl,.keep _,rfl,.keep _,rfl,.hit true,rfl,.keep _,rfl,.keep _,trivial⟩ ⟨rfl,.inl rfl,rfl,.inl rfl,trivial⟩) ?_
 refine WA_weak (wO 5 5000 38 2) ?_
 refine lK [1,5,6,9,28,29] [(5000,10005,0),(10006,10006,0)] (fun k s=>∃ q,q ≤ k ∧ q ≤ q1 ∧ ∃ (l7 : List Arr2_i64),∃ (l8 : List Int),∃ (i9 : Int),rank_Inside_L1 q a0 a1 l1 i2 r6 l7 l8 i9 = some r ∧ s = ⟨[(1,po s_Lstring a1),(5,vs 10005 0 s_Arr2_i64 l7),(6,vs 10006 0 s_Lint l1),(9,po s_int l8),(28,vi (ln a1)),(29,vi i9)],[(10005,rb 0 s_Arr2_i64 l7),(10006,rb 0 s_Lint l1)],1⟩) q1 ⟨q1,Nat.le_refl _,Nat.le_refl _,([] : List Arr2_i64),r6,0,h,rfl⟩ (by rintro s ⟨q,hq,_,l7,l8,i9,h,_⟩; obtain rfl:=Nat.le_zero.1 hq; rw [rank_Inside_L1] at h; cases h) ?_
 clear h
 rintro k2 s ⟨q2,hk2,hn2,l7,l8,i9,h,rfl⟩
 rcases q2 with _ | q2
 ·rw [rank_Inside_L1] at h; cases h
 rw [rank_Inside_L1] at h
 refine Qzd hT 1 [1,5,6,9,28,29,30] [(30,vb (decide (i9 < (ln a1))))] ?_
 refine WA_seq ?_
 refine Ci h (fun h=>?_) fun h=>?_
 ·refine WA_skip ?_
  refine WA_seq ?_
  refine WA_block ?_
  refine Qzd hT 2 [1,5,6,9,10,28,29] [(10,vi i9)] ?_
  refine Qgd hT 1 [1,5,6,9,10,28,29,32] [(32,po s_Lstring a1)] ?_
  refine One' hT rfl (v_len s_Lstring .opt a1) ?_
  refine Szd hT 1 [1,5,6,9,10,28,29,33,34] [(33,vi (ln a1)),(34,vi 0)] ?_
  refine WA_block ?_
  refine lK [1,5,6,9,10,28,29,33,34] [(10005,10005,0),(10006,10006,0)] (fun k s=>∃ q,q ≤ k ∧ q ≤ q2 ∧ ∃ (l10 : List Arr2_i64),∃ (i11 : Int),rank_Inside_L2 q a0 a1 l1 i2 r6 l7 l8 i9 l10 i11 = some r ∧ s = ⟨[(1,po s_Lstring a1),(5,vs 10005 0 s_Arr2_i64 l10),(6,vs 10006 0 s_Lint l1),(9,po s_int l8),(10,vi i9),(28,vi (ln a1)),(29,vi i9),(33,vi (ln a1)),(34,vi i11)],[(10005,rb 0 s_Arr2_i64 l10),(10006,rb 0 s_Lint l1)],1⟩) q2 ⟨q2,Nat.le_refl _,Nat.le_refl _,l7,0,h,rfl⟩ (by rintro s ⟨q,hq,_,l10,i11,h,_⟩; obtain rfl:=Nat.le_zero.1 hq; rw [rank_Inside_L2] at h; cases h) ?_
  clear h
  rintro k3 s ⟨q3,hk3,hn3,l10,i11,h,rfl⟩
  rcases q3 with _ | q3
  ·rw [rank_Inside_L2] at h; cases h
  rw [rank_Inside_L2] at h
  refine Qzd hT 1 [1,5,6,9,10,28,29,33,34,35] [(35,vb (decide (i11 < (ln a1))))] ?_
  refine WA_seq ?_
  refine Ci h (fun h=>?_) fun h=>?_
  ·refine WA_skip ?_
   refine WA_seq ?_
   obtain ⟨J13,hJ13,h⟩:=jsome h
   refine WA_join (fun s=>∃ (l12 : List Arr2_i64),J13 l12 = some r ∧ s = ⟨[(1,po s_Lstring a1),(5,vs 10005 0 s_Arr2_i64 l12),(6,vs 10006 0 s_Lint l1),(9,po s_int l8),(10,vi i9),(28,vi (ln a1)),(29,vi i9),(33,vi (ln a1)),(34,vi i11)],[(10005,rb 0 s_Arr2_i64 l12),(10006,rb 0 s_Lint l1)],1⟩) ?_ ?_
   ·refine WA_block ?_
    refine Qz hT 2 [1,5,6,9,10,11,28,29,33,34] ⟨[(1,po s_Lstring a1),(5,vs 10005 0 s_Arr2_i64 l10),(6,vs 10006 0 s_Lint l1),(9,po s_int l8),(10,vi i9),(11,vi i11),(28,vi (ln a1)),(29,vi i9),(33,vi (ln a1)),(34,vi i11)],[(10005,rb 0 s_Arr2_i64 l10),(10006,rb 0 s_Lint l1)],1⟩ ?_
    refine WA_seq ?_
    obtain ⟨J15,hJ15,h⟩:=jsome h
    refine WA_join (fun s=>∃ (b14 : Bool),J15 b14 = some r ∧ s = ⟨[(1,po s_Lstring a1),(5,vs 10005 0 s_Arr2_i64 l10),(6,vs 10006 0 s_Lint l1),(9,po s_int l8),(10,vi i9),(11,vi i11),(28,vi (ln a1)),(29,vi i9),(33,vi (ln a1)),(34,vi i11),(51,vb b14)],[(10005,rb 0 s_Arr2_i64 l10),(10006,rb 0 s_Lint l1)],1⟩) ?_ ?_
    ·refine WA_drawW hT hM (by kernel_rfl) ?_
     refine Ds 4 [(40,vb (i9 != i11)),(39,vb (i9 != i11)),(38,vi i11),(37,vi i9)] [] [] ?_
     cases hb : ((i9 != i11) : Bool)
     ·replace h:=cfalse hb h
      refine Ds 11 [(51,vb false),(50,vU),(49,vU),(48,vU),(47,vU),(46,vU),(45,vU),(44,vU),(43,vU),(42,vU),(41,vU)] [] [] ?_
      refine De ?_
      exact wK [1,5,6,9,10,11,28,29,33,34,51] [(10005,10005,0),(10006,10006,0)] ⟨false,h,rfl⟩
     replace h:=ctrue hb h
     refine Ds 2 [(42,vi i11),(41,vs 10006 0 s_Lint l1)] [] [] ?_
     obtain ⟨x16,hx16,h⟩:=bsome h
     refine Dl rfl (v_index_own s_Lint 10006 0 true (rb 0 s_Lint l1) l1 .i64 i11 hx16) ?_
     refine Dt (.box 10006 0 i11.toNat 0) ?_
     refine Dl rfl (v_load_row s_Lint 10006 0 (rb 0 s_Lint l1) l1 i11.toNat 0 x16 (po s_int x16) (idx_some hx16).2) ?_
     refine Dt (po s_int x16) ?_
     refine Ds 2 [(46,vi i9),(45,vs 10006 0 s_Lint l1)] [] [] ?_
     obtain ⟨x17,hx17,h⟩:=bsome h
     refine Dl rfl (v_index_own s_Lint 10006 0 true (rb 0 s_Lint l1) l1 .i64 i9 hx17) ?_
     refine Dt (.box 10006 0 i9.toNat 0) ?_
     refine Dl rfl (v_load_row s_Lint 10006 0 (rb 0 s_Lint l1) l1 i9.toNat 0 x17 (po s_int x17) (idx_some hx17).2) ?_
     refine Dt (po s_int x17) ?_
     refine Ds 1 [(49,po s_int l8)] [] [] ?_
     obtain ⟨r18,hr18,h⟩:=bsome h
     refine Dp [po s_int x16,po s_int x17,po s_int l8] (vb r18) en19 (rank_within_ok hr18) ?_
     refine Ds 1 [(51,vb r18)] [] [] ?_
     refine De ?_
     exact wK [1,5,6,9,10,11,28,29,33,34,51] [(10005,10005,0),(10006,10006,0)] ⟨r18,h,rfl⟩
    subst hJ15
    rintro s ⟨b14,h,rfl⟩
    skip
    refine Ci h (fun h=>?_) fun h=>?_
    ·refine Rgh hT 5 [1,6,9,10,28,29,33,34,52,56] [(52,vs 10005 0 s_Arr2_i64 l10),(56,vs 56 1 s_Arr2_i64 [(Arr2_i64.mk i9 i11)])] [(56,⟨1,38,2,false,false,s_Arr2_i64.F [(Arr2_i64.mk i9 i11)]⟩),(10005,rb 0 s_Arr2_i64 l10),(10006,rb 0 s_Lint l1)] 2 ?_
     obtain ⟨g19,h⟩:=gsome h
     refine Oa hT s_Arr2_i64 10005 0 true l10 [(Arr2_i64.mk i9 i11)] (eO s_Arr2_i64 56 1 true ⟨1,38,2,false,false,s_Arr2_i64.F [(Arr2_i64.mk i9 i11)]⟩ [(Arr2_i64.mk i9 i11)]) g19 ?_
     refine Sgh hT 1 [1,5,6,9,10,28,29,33,34] [(5,vs 57 2 s_Arr2_i64 (l10 ++ [(Arr2_i64.mk i9 i11)]))] [(57,rb 2 s_Arr2_i64 (l10 ++ [(Arr2_i64.mk i9 i11)])),(56,⟨1,38,2,false,false,s_Arr2_i64.F [(Arr2_i64.mk i9 i11)]⟩),(10006,rb 0 s_Lint l1)] 3 ?_
     exact oK [1,5,6,9,10,28,29,33,34] [(57,10005,0),(10006,10006,0)] ⟨l10 ++ [(Arr2_i64.mk i9 i11)],h,rfl⟩
    exact sK [1,5,6,9,10,28,29,33,34] [(10005,10005,0),(10006,10006,0)] ⟨l10,h,rfl⟩
   subst hJ13
   rintro s ⟨l12,h,rfl⟩
   skip
   refine Rgd hT 2 [1,5,6,9,10,28,29,33,34] [(34,vi (wr (i11 + 1)))] ?_
   exact oK [1,5,6,9,10,28,29,33,34] [(10005,10005,0),(10006,10006,0)] ⟨_,by omega,by omega,l12,wr (i11 + 1),h,rfl⟩
  refine WA_exit ?_
  refine Rgd hT 2 [1,5,6,9,28,29] [(29,vi (wr (i9 + 1)))] ?_
  exact oK [1,5,6,9,28,29] [(10005,10005,0),(10006,10006,0)] ⟨_,by omega,by omega,l10,l8,wr (i9 + 1),h,rfl⟩
 refine WA_exit ?_
 refine Qgd hT 1 [60] [(60,vs 10005 0 s_Arr2_i64 l7)] ?_
 refine WO_weak (wF 10005 0 (rb 0 s_Arr2_i64 l7) [(60,po s_Arr2_i64 l7)] [(10006,rb 0 s_Lint l1)] ⟨rfl,.hit true,trivial⟩ ⟨rfl,.inl rfl,trivial⟩) ?_
 obtain ⟨r20,hr20,h⟩:=bsome h
 refine Pt' en20 (Clip_2int_ok hr20) ?_
 refine Szd hT 1 [4] [(4,.ps .fopt (s_Arr2_i64.F r20))] ?_
 obtain rfl:=Option.some.inj h
 exact rK [4] [] ⟨[(4,.ps .fopt (s_Arr2_i64.F r20))],[],1⟩ ⟨by kernel_rfl,rfl⟩
def ref1_block_spec (n : Nat) : Prop:=(∀ {a0 : List Stmt} {r : List Stmt},ref1_block n a0 = some r → GO Tryz.prog 50 [] [po s_Stmt a0] (vs 100 1 s_Stmt r) [(100,rb 1 s_Stmt r)])
theorem ref1_block_step (n : Nat) (ih : ∀ m,m < n → ref1_block_spec m) : ∀ {a0 : List Stmt} {r : List Stmt},ref1_block n a0 = some r → GO Tryz.prog 50 [] [po s_Stmt a0] (vs 100 1 s_Stmt r) [(100,rb 1 s_Stmt r)]:=by
 intro a0 r h
 rcases n with _ | n
 ·rw [ref1_block] at h; cases h
 rw [ref1_block] at h
 refine GO_bodyA hT Tryz.func50 rfl [] (by kernel_rfl) fun bad w m=>?_
 refine Qzd hT 1 [0] [] ?_
 refine Qzd hT 1 [0,3] [(3,vn)] ?_
 refine WA_seq ?_
 refine Qzd hT 1 [0,3,4] [(4,vi 0)] ?_
 refine WA_block ?_
 refine aW [0,3,4] ⟨[(0,po s_Stmt a0),(3,vn),(4,vi 0)],[],1⟩ ?_
 refine WA_weak (wO 3 5000 94 11) ?_
 refine lK [0,3,4] [(5000,10003,1)] (fun k s=>∃ q,q ≤ k ∧ q ≤ n ∧ ∃ (l1 : List Stmt),∃ (i2 : Int),ref1_block_L0 q a0 l1 i2 = some r ∧ s = ⟨[(0,po s_Stmt a0),(3,vs 10003 1 s_Stmt l1),(4,vi i2)],[(10003,rb 1 s_Stmt l1)],2⟩) n ⟨n,Nat.le_refl _,Nat.le_refl _,([] : List Stmt),0,h,rfl⟩ (by rintro s ⟨q,hq,_,l1,i2,h,_⟩; obtain rfl:=Nat.le_zero.1 hq; rw [ref1_block_L0] at h; cases h) ?_
 clear h
 rintro k1 s ⟨q1,hk1,hn1,l1,i2,h,rfl⟩
 rcases q1 with _ | q1
 ·rw [ref1_block_L0] at h; cases h
 rw [ref1_block_L0] at h
 refine WA_seq ?_
 refine Qgd hT 2 [0,3,4,5,6] [(5,vi i2),(6,po s_Stmt a0)] ?_
 refine One' hT rfl (v_len s_Stmt .opt a0) ?_
 refine Szd hT 1 [0,3,4,8] [(8,vb (decide (i2 < (ln a0))))] ?_
 refine Ci h (fun h=>?_) fun h=>?_
 ·refine WA_skip ?_
  refine WA_seq ?_
  refine WA_block ?_
  refine Qg hT 3 [0,4,11,12,13] ⟨[(0,po s_Stmt a0),(4,vi i2),(11,vs 10003 1 s_Stmt l1),(12,po s_Stmt a0),(13,vi i2)],[(10003,rb 1 s_Stmt l1)],2⟩ ?_
  obtain ⟨x3,hx3,h⟩:=bsome h
  refine One' hT rfl (v_index s_Stmt .opt a0 .i64 i2 hx3) ?_
  refine Sgd hT 1 [0,4,11,15] [(15,eStmt x3)] ?_
  refine One' hT rfl (ev_bslice s_Stmt 16 [x3] (by kernel_rfl)) ?_
  refine Sgh hT 0 [0,4,11,16] [(16,vs 16 2 s_Stmt [x3])] [(16,⟨2,94,11,false,false,s_Stmt.F [x3]⟩),(10003,rb 1 s_Stmt l1)] 3 ?_
  obtain ⟨g4,h⟩:=gsome h
  refine Oa hT s_Stmt 10003 1 true l1 [x3] (eO s_Stmt 16 2 true ⟨2,94,11,false,false,s_Stmt.F [x3]⟩ [x3]) g4 ?_
  refine Szh hT 1 [0,3,4] [(3,vs 17 3 s_Stmt (l1 ++ [x3]))] [(17,rb 3 s_Stmt (l1 ++ [x3])),(16,⟨2,94,11,false,false,s_Stmt.F [x3]⟩)] 4 ?_
  refine Qgd hT 3 [0,4,18,19,20] [(18,vs 17 3 s_Stmt (l1 ++ [x3])),(19,po s_Stmt a0),(20,vi i2)] ?_
  obtain ⟨x5,hx5,h⟩:=bsome h
  refine One' hT rfl (v_index s_Stmt .opt a0 .i64 i2 hx5) ?_
  refine Sgd hT 2 [0,4,18,23] [(23,po s_Stmt x5.Body)] ?_
  obtain ⟨r6,hr6,h⟩:=bsome h
  refine Og [] [(100,rb 1 s_Stmt r6)] [po s_Stmt x5.Body] [po s_Stmt x5.Body] [] [(100,24,4)] [(24,rb 4 s_Stmt r6)] (vs 100 1 s_Stmt r6) (vs 24 4 s_Stmt r6) 5 en50 ((ih _ (by omega)) hr6) ?_
  refine Sgh hT 0 [0,4,18,24] [(24,vs 24 4 s_Stmt r6)] [(24,rb 4 s_Stmt r6),(17,rb 3 s_Stmt (l1 ++ [x3])),(16,⟨2,94,11,false,false,s_Stmt.F [x3]⟩)] 5 ?_
  obtain ⟨g7,h⟩:=gsome h
  refine Oa hT s_Stmt 17 3 true (l1 ++ [x3]) r6 (eO s_Stmt 24 4 true (rb 4 s_Stmt r6) r6) g7 ?_
  refine Szh hT 1 [0,3,4] [(3,vs 25 5 s_Stmt ((l1 ++ [x3]) ++ r6))] [(25,rb 5 s_Stmt ((l1 ++ [x3]) ++ r6)),(24,rb 4 s_Stmt r6),(16,⟨2,94,11,false,false,s_Stmt.F [x3]⟩)] 6 ?_
  refine Rgd hT 3 [0,4,26,27,28] [(26,vs 25 5 s_Stmt ((l1 ++ [x3]) ++ r6)),(27,po s_Stmt a0),(28,vi i2)] ?_
  obtain ⟨x8,hx8,h⟩:=bsome h
  refine One' hT rfl (v_index s_Stmt .opt a0 .i64 i2 hx8) ?_
  refine Sg hT 2 [0,4,26,31] ⟨[(0,po s_Stmt a0),(4,vi i2),(26,vs 25 5 s_Stmt ((l1 ++ [x3]) ++ r6)),(31,po s_Stmt x8.Else)],[(25,rb 5 s_Stmt ((l1 ++ [x3]) ++ r6)),(24,rb 4 s_Stmt r6),(16,⟨2,94,11,false,false,s_Stmt.F [x3]⟩)],6⟩ ?_
  obtain ⟨r9,hr9,h⟩:=bsome h
  refine Og [] [(100,rb 1 s_Stmt r9)] [po s_Stmt x8.Else] [po s_Stmt x8.Else] [] [(100,32,6)] [(32,rb 6 s_Stmt r9)] (vs 100 1 s_Stmt r9) (vs 32 6 s_Stmt r9) 7 en50 ((ih _ (by omega)) hr9) ?_
  refine Sgh hT 0 [0,4,26,32] [(32,vs 32 6 s_Stmt r9)] [(32,rb 6 s_Stmt r9),(25,rb 5 s_Stmt ((l1 ++ [x3]) ++ r6)),(24,rb 4 s_Stmt r6),(16,⟨2,94,11,false,false,s_Stmt.F [x3]⟩)] 7 ?_
  obtain ⟨g10,h⟩:=gsome h
  refine Oa hT s_Stmt 25 5 true ((l1 ++ [x3]) ++ r6) r9 (eO s_Stmt 32 6 true (rb 6 s_Stmt r9) r9) g10 ?_
  refine Szh hT 1 [0,3,4] [(3,vs 33 7 s_Stmt (((l1 ++ [x3]) ++ r6) ++ r9))] [(33,rb 7 s_Stmt (((l1 ++ [x3]) ++ r6) ++ r9)),(32,rb 6 s_Stmt r9),(24,rb 4 s_Stmt r6),(16,⟨2,94,11,false,false,s_Stmt.F [x3]⟩)] 8 ?_
  refine Rgd hT 3 [0,3,4] [(4,vi (wr (i2 + 1)))] ?_
  exact oK [0,3,4] [(33,10003,1)] ⟨_,by omega,by omega,((l1 ++ [x3]) ++ r6) ++ r9,wr (i2 + 1),h,rfl⟩
 refine WA_exit ?_
 refine Qzd hT 2 [2] [(2,vs 10003 1 s_Stmt l1)] ?_
 obtain rfl:=Option.some.inj h
 exact rK [2] [(10003,100,1)] ⟨[(2,vs 100 1 s_Stmt l1)],[(100,rb 1 s_Stmt l1)],2⟩ ⟨by kernel_rfl,by kernel_rfl,rfl⟩
theorem ref1_block_all (n : Nat) : ref1_block_spec n:=by
 induction n using Nat.strongRecOn with
 | _ n ih=>exact ref1_block_step n ih
theorem ref1_block_ok {n : Nat} {a0 : List Stmt} {r : List Stmt} (h : ref1_block n a0 = some r) : GO Tryz.prog 50 [] [po s_Stmt a0] (vs 100 1 s_Stmt r) [(100,rb 1 s_Stmt r)]:=(ref1_block_all n) h
theorem ref1_List_ok {n : Nat} {a0 : Prog} {r : List Stmt} (h : ref1_List n a0 = some r) : GO Tryz.prog 21 [] [eProg a0] (vs 100 1 s_Stmt r) [(100,rb 1 s_Stmt r)]:=by
 unfold ref1_List at h
 refine GO_bodyA hT Tryz.func21 rfl [] (by kernel_rfl) fun bad w m=>?_
 refine Qz hT 2 [1] ⟨[(1,bx 1 1)],[(1,cb 1 26 2 (eProg a0))],2⟩ ?_
 refine Qzd hT 1 [1,3] [(3,vn)] ?_
 refine WA_seq ?_
 refine Qzd hT 1 [1,3,4] [(4,vi 0)] ?_
 refine WA_block ?_
 refine aW [1,3,4] ⟨[(1,bx 1 1),(3,vn),(4,vi 0)],[(1,cb 1 26 2 (eProg a0))],2⟩ ?_
 refine WA_weak (wO 3 5000 94 11) ?_
 refine lK [1,3,4] [(1,1,1),(5000,10003,1)] (fun k s=>∃ q,q ≤ k ∧ q ≤ n ∧ ∃ (l1 : List Stmt),∃ (i2 : Int),ref1_List_L0 q a0 l1 i2 = some r ∧ s = ⟨[(1,bx 1 1),(3,vs 10003 1 s_Stmt l1),(4,vi i2)],[(1,cb 1 26 2 (eProg a0)),(10003,rb 1 s_Stmt l1)],2⟩) n ⟨n,Nat.le_refl _,Nat.le_refl _,([] : List Stmt),0,h,rfl⟩ (by rintro s ⟨q,hq,_,l1,i2,h,_⟩; obtain rfl:=Nat.le_zero.1 hq; rw [ref1_List_L0] at h; cases h) ?_
 clear h
 rintro k1 s ⟨q1,hk1,hn1,l1,i2,h,rfl⟩
 rcases q1 with _ | q1
 ·rw [ref1_List_L0] at h; cases h
 rw [ref1_List_L0] at h
 refine WA_seq ?_
 refine Qgd hT 3 [1,3,4,5,7] [(5,vi i2),(7,po s_LStmt a0.Threads)] ?_
 refine One' hT rfl (v_len s_LStmt .opt a0.Threads) ?_
 refine Sz hT 1 [1,3,4,9] ⟨[(1,bx 1 1),(3,vs 10003 1 s_Stmt l1),(4,vi i2),(9,vb (decide (i2 < (ln a0.Threads))))],[(1,cb 1 26 2 (eProg a0)),(10003,rb 1 s_Stmt l1)],2⟩ ?_
 refine Ci h (fun h=>?_) fun h=>?_
 ·refine WA_skip ?_
  refine WA_seq ?_
  refine WA_block ?_
  refine Rgd hT 4 [1,4,12,14,15] [(12,vs 10003 1 s_Stmt l1),(14,po s_LStmt a0.Threads),(15,vi i2)] ?_
  obtain ⟨x3,hx3,h⟩:=bsome h
  refine One' hT rfl (v_index s_LStmt .opt a0.Threads .i64 i2 hx3) ?_
  refine Sgd hT 1 [1,4,12,17] [(17,po s_Stmt x3)] ?_
  obtain ⟨r4,hr4,h⟩:=bsome h
  refine Og [] [(100,rb 1 s_Stmt r4)] [po s_Stmt x3] [po s_Stmt x3] [] [(100,18,2)] [(18,rb 2 s_Stmt r4)] (vs 100 1 s_Stmt r4) (vs 18 2 s_Stmt r4) 3 en50 (ref1_block_ok hr4) ?_
  refine Sgh hT 0 [1,4,12,18] [(18,vs 18 2 s_Stmt r4)] [(18,rb 2 s_Stmt r4),(1,cb 1 26 2 (eProg a0)),(10003,rb 1 s_Stmt l1)] 3 ?_
  obtain ⟨g5,h⟩:=gsome h
  refine Oa hT s_Stmt 10003 1 true l1 r4 (eO s_Stmt 18 2 true (rb 2 s_Stmt r4) r4) g5 ?_
  refine Szh hT 1 [1,3,4] [(3,vs 19 3 s_Stmt (l1 ++ r4))] [(19,rb 3 s_Stmt (l1 ++ r4)),(18,rb 2 s_Stmt r4),(1,cb 1 26 2 (eProg a0))] 4 ?_
  refine Rgd hT 3 [1,3,4] [(4,vi (wr (i2 + 1)))] ?_
  exact oK [1,3,4] [(1,1,1),(19,10003,1)] ⟨_,by omega,by omega,l1 ++ r4,wr (i2 + 1),h,rfl⟩
 refine WA_exit ?_
 refine Qzd hT 2 [2] [(2,vs 10003 1 s_Stmt l1)] ?_
 obtain rfl:=Option.some.inj h
 exact rK [2] [(10003,100,1)] ⟨[(2,vs 100 1 s_Stmt l1)],[(100,rb 1 s_Stmt l1)],2⟩ ⟨by kernel_rfl,by kernel_rfl,rfl⟩
def ref1_Names_spec (n : Nat) : Prop:=(∀ {a0 : Expr} {r : List ByteArray},ref1_Names n a0 = some r → GO Tryz.prog 99 [] [eExpr a0] (vs 100 1 s_string r) [(100,rb 1 s_string r)])
theorem ref1_Names_step (n : Nat) (ih : ∀ m,m < n → ref1_Names_spec m) : ∀ {a0 : Expr} {r : List ByteArray},ref1_Names n a0 = some r → GO Tryz.prog 99 [] [eExpr a0] (vs 100 1 s_string r) [(100,rb 1 s_string r)]:=by
 intro a0 r h
 rcases n with _ | n
 ·rw [ref1_Names] at h; cases h
 rw [ref1_Names] at h
 refine GO_bodyA hT Tryz.func99 rfl [] (by kernel_rfl) fun bad w m=>?_
 refine Qz hT 2 [1] ⟨[(1,bx 1 1)],[(1,cb 1 92 4 (eExpr a0))],2⟩ ?_
 refine Qzd hT 1 [1,3] [(3,vn)] ?_
 refine WA_seq ?_
 refine Qzd hT 3 [1,3,7] [(7,vb (a0.Kind == 2))] ?_
 obtain ⟨J2,hJ2,h⟩:=jsome h
 refine WA_join (fun s=>∃ (l1 : List ByteArray),J2 l1 = some r ∧ s = ⟨[(1,bx 1 1),(3,vs 10003 1 s_string l1)],[(1,cb 1 92 4 (eExpr a0)),(10003,rb 1 s_string l1)],2⟩) ?_ ?_
 ·refine Ci h (fun h=>?_) fun h=>?_
  ·refine Rg hT 4 [1,8,11] ⟨[(1,bx 1 1),(8,vn),(11,vs 11 2 s_string [a0.Name])],[(11,⟨2,9,1,false,false,s_string.F [a0.Name]⟩),(1,cb 1 92 4 (eExpr a0))],3⟩ ?_
   refine WO_weak (wO 8 6012 9 1) ?_
   obtain ⟨g3,h⟩:=gsome h
   refine Oa hT s_string 6012 3 true ([] : List ByteArray) [a0.Name] (eO s_string 11 2 true ⟨2,9,1,false,false,s_string.F [a0.Name]⟩ [a0.Name]) g3 ?_
   refine Sg hT 1 [1,3] ⟨[(1,bx 1 1),(3,vs 12 4 s_string (([] : List ByteArray) ++ [a0.Name]))],[(12,rb 4 s_string (([] : List ByteArray) ++ [a0.Name])),(11,⟨2,9,1,false,false,s_string.F [a0.Name]⟩),(1,cb 1 92 4 (eExpr a0))],5⟩ ?_
   exact oK [1,3] [(1,1,1),(12,10003,1)] ⟨([] : List ByteArray) ++ [a0.Name],h,rfl⟩
  refine aW [1,3] ⟨[(1,bx 1 1),(3,vn)],[(1,cb 1 92 4 (eExpr a0))],2⟩ ?_
  refine WA_weak (wO 3 5000 9 1) ?_
  exact sK [1,3] [(1,1,1),(5000,10003,1)] ⟨([] : List ByteArray),h,rfl⟩
 subst hJ2
 rintro s ⟨l1,h,rfl⟩
 refine WA_seq ?_
 refine Qzd hT 1 [1,3,4] [(4,vi 0)] ?_
 refine WA_block ?_
 refine lK [1,3,4] [(1,1,1),(10003,10003,1)] (fun k s=>∃ q,q ≤ k ∧ q ≤ n ∧ ∃ (l4 : List ByteArray),∃ (i5 : Int),ref1_Names_L0 q a0 l1 l4 i5 = some r ∧ s = ⟨[(1,bx 1 1),(3,vs 10003 1 s_string l4),(4,vi i5)],[(1,cb 1 92 4 (eExpr a0)),(10003,rb 1 s_string l4)],2⟩) n ⟨n,Nat.le_refl _,Nat.le_refl _,l1,0,h,rfl⟩ (by rintro s ⟨q,hq,_,l4,i5,h,_⟩; obtain rfl:=Nat.le_zero.1 hq; rw [ref1_Names_L0] at h; cases h) ?_
 clear h
 rintro k1 s ⟨q1,hk1,hn1,l4,i5,h,rfl⟩
 rcases q1 with _ | q1
 ·rw [ref1_Names_L0] at h; cases h
 rw [ref1_Names_L0] at h
 refine WA_seq ?_
 refine Qgd hT 3 [1,3,4,13,15] [(13,vi i5),(15,po s_Expr a0.Of)] ?_
 refine One' hT rfl (v_len s_Expr .opt a0.Of) ?_
 refine Szd hT 1 [1,3,4,17] [(17,vb (decide (i5 < (ln a0.Of))))] ?_
 refine Ci h (fun h=>?_) fun h=>?_
 ·refine WA_skip ?_
  refine WA_seq ?_
  refine WA_block ?_
  refine Rg hT 4 [1,4,20,22,23] ⟨[(1,bx 1 1),(4,vi i5),(20,vs 10003 1 s_string l4),(22,po s_Expr a0.Of),(23,vi i5)],[(1,cb 1 92 4 (eExpr a0)),(10003,rb 1 s_string l4)],2⟩ ?_
  obtain ⟨x6,hx6,h⟩:=bsome h
  refine One' hT rfl (v_index s_Expr .opt a0.Of .i64 i5 hx6) ?_
  refine Sgd hT 1 [1,4,20,25] [(25,eExpr x6)] ?_
  obtain ⟨r7,hr7,h⟩:=bsome h
  refine Og [] [(100,rb 1 s_string r7)] [eExpr x6] [eExpr x6] [] [(100,26,2)] [(26,rb 2 s_string r7)] (vs 100 1 s_string r7) (vs 26 2 s_string r7) 3 en99 ((ih _ (by omega)) hr7) ?_
  refine Sgh hT 0 [1,4,20,26] [(26,vs 26 2 s_string r7)] [(26,rb 2 s_string r7),(1,cb 1 92 4 (eExpr a0)),(10003,rb 1 s_string l4)] 3 ?_
  obtain ⟨g8,h⟩:=gsome h
  refine Oa hT s_string 10003 1 true l4 r7 (eO s_string 26 2 true (rb 2 s_string r7) r7) g8 ?_
  refine Szh hT 1 [1,3,4] [(3,vs 27 3 s_string (l4 ++ r7))] [(27,rb 3 s_string (l4 ++ r7)),(26,rb 2 s_string r7),(1,cb 1 92 4 (eExpr a0))] 4 ?_
  refine Rgd hT 3 [1,3,4] [(4,vi (wr (i5 + 1)))] ?_
  exact oK [1,3,4] [(1,1,1),(27,10003,1)] ⟨_,by omega,by omega,l4 ++ r7,wr (i5 + 1),h,rfl⟩
 refine WA_exit ?_
 refine Qzd hT 2 [2] [(2,vs 10003 1 s_string l4)] ?_
 obtain rfl:=Option.some.inj h
 exact rK [2] [(10003,100,1)] ⟨[(2,vs 100 1 s_string l4)],[(100,rb 1 s_string l4)],2⟩ ⟨by kernel_rfl,by kernel_rfl,rfl⟩
theorem ref1_Names_all (n : Nat) : ref1_Names_spec n:=by
 induction n using Nat.strongRecOn with
 | _ n ih=>exact ref1_Names_step n ih
theorem ref1_Names_ok {n : Nat} {a0 : Expr} {r : List ByteArray} (h : ref1_Names n a0 = some r) : GO Tryz.prog 99 [] [eExpr a0] (vs 100 1 s_string r) [(100,rb 1 s_string r)]:=(ref1_Names_all n) h
theorem ref1_Touches_ok {n : Nat} {a0 : Stmt} {r : List ByteArray} (h : ref1_Touches n a0 = some r) : GO Tryz.prog 78 [] [eStmt a0] (vs 100 1 s_string r) [(100,rb 1 s_string r)]:=by
 unfold ref1_Touches at h
 refine GO_bodyA hT Tryz.func78 rfl [] (by kernel_rfl) fun bad w m=>?_
 refine Qz hT 2 [1] ⟨[(1,bx 1 1)],[(1,cb 1 94 11 (eStmt a0))],2⟩ ?_
 refine Qzd hT 1 [1,3] [(3,vn)] ?_
 refine WA_seq ?_
 refine Qzd hT 2 [1,3,5] [(5,vi a0.Kind)] ?_
 obtain ⟨J2,hJ2,h⟩:=jsome h
 refine WA_join (fun s=>∃ (l1 : List ByteArray),J2 l1 = some r ∧ s = ⟨[(1,bx 1 1),(3,vs 10003 1 s_string l1)],[(1,cb 1 94 11 (eStmt a0)),(10003,rb 1 s_string l1)],2⟩) ?_ ?_
 ·refine WA_block ?_
  refine WA_seq ?_
  refine Qzd hT 2 [1,3,5,6] [(6,vb (a0.Kind == 1))] ?_
  obtain ⟨J4,hJ4,h⟩:=jsome h
  refine WA_join (fun s=>∃ (b3 : Bool),J4 b3 = some r ∧ s = ⟨[(1,bx 1 1),(3,vn),(6,vb b3)],[(1,cb 1 94 11 (eStmt a0))],2⟩) ?_ ?_
  ·refine Ci h (fun h=>?_) fun h=>?_
   ·exact sK [1,3,6] [(1,1,1)] ⟨(a0.Kind == 1),h,rfl⟩
   refine Qzd hT 2 [1,3,5,6] [(6,vb (a0.Kind == 4))] ?_
   refine Ci h (fun h=>?_) fun h=>?_
   ·exact sK [1,3,6] [(1,1,1)] ⟨(a0.Kind == 4),h,rfl⟩
   refine Qzd hT 2 [1,3,5,6] [(6,vb (a0.Kind == 6))] ?_
   refine Ci h (fun h=>?_) fun h=>?_
   ·exact sK [1,3,6] [(1,1,1)] ⟨(a0.Kind == 6),h,rfl⟩
   refine Rgd hT 2 [1,3,6] [(6,vb (a0.Kind == 7))] ?_
   exact oK [1,3,6] [(1,1,1)] ⟨(a0.Kind == 7),h,rfl⟩
  subst hJ4
  rintro s ⟨b3,h,rfl⟩
  skip
  refine Ci h (fun h=>?_) fun h=>?_
  ·refine Rgd hT 2 [1,12] [(12,eExpr a0.E)] ?_
   obtain ⟨r5,hr5,h⟩:=bsome h
   refine Og [] [(100,rb 1 s_string r5)] [eExpr a0.E] [eExpr a0.E] [] [(100,13,2)] [(13,rb 2 s_string r5)] (vs 100 1 s_string r5) (vs 13 2 s_string r5) 3 en99 (ref1_Names_ok hr5) ?_
   refine Sg hT 1 [1,3] ⟨[(1,bx 1 1),(3,vs 13 2 s_string r5)],[(13,rb 2 s_string r5),(1,cb 1 94 11 (eStmt a0))],3⟩ ?_
   exact oK [1,3] [(1,1,1),(13,10003,1)] ⟨r5,h,rfl⟩
  refine aW [1,3] ⟨[(1,bx 1 1),(3,vn)],[(1,cb 1 94 11 (eStmt a0))],2⟩ ?_
  refine WA_weak (wO 3 5000 9 1) ?_
  exact sK [1,3] [(1,1,1),(5000,10003,1)] ⟨([] : List ByteArray),h,rfl⟩
 subst hJ2
 rintro s ⟨l1,h,rfl⟩
 refine WA_seq ?_
 refine Qzd hT 3 [1,3,16] [(16,vb (a0.Kind == 1))] ?_
 obtain ⟨J7,hJ7,h⟩:=jsome h
 refine WA_join (fun s=>∃ (l6 : List ByteArray),J7 l6 = some r ∧ s = ⟨[(1,bx 1 1),(3,vs 10003 1 s_string l6)],[(1,cb 1 94 11 (eStmt a0)),(10003,rb 1 s_string l6)],2⟩) ?_ ?_
 ·refine Ci h (fun h=>?_) fun h=>?_
  ·refine Rg hT 4 [1,17,20] ⟨[(1,bx 1 1),(17,vs 10003 1 s_string l1),(20,vs 20 2 s_string [a0.Name])],[(20,⟨2,9,1,false,false,s_string.F [a0.Name]⟩),(1,cb 1 94 11 (eStmt a0)),(10003,rb 1 s_string l1)],3⟩ ?_
   obtain ⟨g8,h⟩:=gsome h
   refine Oa hT s_string 10003 1 true l1 [a0.Name] (eO s_string 20 2 true ⟨2,9,1,false,false,s_string.F [a0.Name]⟩ [a0.Name]) g8 ?_
   refine Sg hT 1 [1,3] ⟨[(1,bx 1 1),(3,vs 21 3 s_string (l1 ++ [a0.Name]))],[(21,rb 3 s_string (l1 ++ [a0.Name])),(20,⟨2,9,1,false,false,s_string.F [a0.Name]⟩),(1,cb 1 94 11 (eStmt a0))],4⟩ ?_
   exact oK [1,3] [(1,1,1),(21,10003,1)] ⟨l1 ++ [a0.Name],h,rfl⟩
  exact sK [1,3] [(1,1,1),(10003,10003,1)] ⟨l1,h,rfl⟩
 subst hJ7
 rintro s ⟨l6,h,rfl⟩
 refine WA_seq ?_
 refine Qzd hT 3 [1,3,24] [(24,vb (a0.Kind == 5))] ?_
 obtain ⟨J10,hJ10,h⟩:=jsome h
 refine WA_join (fun s=>∃ (l9 : List ByteArray),J10 l9 = some r ∧ s = ⟨[(3,vs 10003 1 s_string l9)],[(10003,rb 1 s_string l9)],2⟩) ?_ ?_
 ·refine Ci h (fun h=>?_) fun h=>?_
  ·refine Rg hT 4 [25,28] ⟨[(25,vs 10003 1 s_string l6),(28,vs 28 2 s_string [a0.Other])],[(28,⟨2,9,1,false,false,s_string.F [a0.Other]⟩),(1,cb 1 94 11 (eStmt a0)),(10003,rb 1 s_string l6)],3⟩ ?_
   obtain ⟨g11,h⟩:=gsome h
   refine Oa hT s_string 10003 1 true l6 [a0.Other] (eO s_string 28 2 true ⟨2,9,1,false,false,s_string.F [a0.Other]⟩ [a0.Other]) g11 ?_
   refine Sg hT 1 [3] ⟨[(3,vs 29 3 s_string (l6 ++ [a0.Other]))],[(29,rb 3 s_string (l6 ++ [a0.Other])),(28,⟨2,9,1,false,false,s_string.F [a0.Other]⟩),(1,cb 1 94 11 (eStmt a0))],4⟩ ?_
   exact oK [3] [(29,10003,1)] ⟨l6 ++ [a0.Other],h,rfl⟩
  exact sK [3] [(10003,10003,1)] ⟨l6,h,rfl⟩
 subst hJ10
 rintro s ⟨l9,h,rfl⟩
 refine Qzd hT 2 [2] [(2,vs 10003 1 s_string l9)] ?_
 obtain rfl:=Option.some.inj h
 exact rK [2] [(10003,100,1)] ⟨[(2,vs 100 1 s_string l9)],[(100,rb 1 s_string l9)],2⟩ ⟨by kernel_rfl,by kernel_rfl,rfl⟩
theorem ref22_hasName_ok {n : Nat} {a0 : List ByteArray} {a1 : ByteArray} {r : Bool} (h : ref22_hasName n a0 a1 = some r) : PT Tryz.prog 79 [po s_string a0,vw a1] (vb r):=by
 unfold ref22_hasName at h
 refine PT_bodyA hT Tryz.func79 rfl (by kernel_rfl) fun bad w=>?_
 refine Qzd hT 1 [0,1] [] ?_
 refine WA_seq ?_
 refine Qzd hT 1 [0,1,5] [(5,vi 0)] ?_
 refine WA_block ?_
 refine lK [0,1,5] [] (fun k s=>∃ q,q ≤ k ∧ q ≤ n ∧ ∃ (i1 : Int),ref22_hasName_L0 q a0 a1 i1 = some r ∧ s = ⟨[(0,po s_string a0),(1,vw a1),(5,vi i1)],[],1⟩) n ⟨n,Nat.le_refl _,Nat.le_refl _,0,h,rfl⟩ (by rintro s ⟨q,hq,_,i1,h,_⟩; obtain rfl:=Nat.le_zero.1 hq; rw [ref22_hasName_L0] at h; cases h) ?_
 clear h
 rintro k1 s ⟨q1,hk1,hn1,i1,h,rfl⟩
 rcases q1 with _ | q1
 ·rw [ref22_hasName_L0] at h; cases h
 rw [ref22_hasName_L0] at h
 refine WA_seq ?_
 refine Qgd hT 2 [0,1,5,6,7] [(6,vi i1),(7,po s_string a0)] ?_
 refine One' hT rfl (v_len s_string .opt a0) ?_
 refine Szd hT 1 [0,1,5,9] [(9,vb (decide (i1 < (ln a0))))] ?_
 refine Ci h (fun h=>?_) fun h=>?_
 ·refine WA_skip ?_
  refine WA_seq ?_
  refine WA_block ?_
  refine Qgd hT 2 [0,1,5,12,13] [(12,po s_string a0),(13,vi i1)] ?_
  obtain ⟨x2,hx2,h⟩:=bsome h
  refine One' hT rfl (v_index s_string .opt a0 .i64 i1 hx2) ?_
  refine Szd hT 3 [0,1,5,17] [(17,vb (bytesEq x2 a1))] ?_
  refine Ci h (fun h=>?_) fun h=>?_
  ·refine Qz hT 1 [4] ⟨[(4,vb true)],[],1⟩ ?_
   obtain rfl:=Option.some.inj h
   exact rK [4] [] ⟨[(4,vb true)],[],1⟩ ⟨by kernel_rfl,rfl⟩
  refine WA_skip ?_
  refine Rgd hT 3 [0,1,5] [(5,vi (wr (i1 + 1)))] ?_
  exact oK [0,1,5] [] ⟨_,by omega,by omega,wr (i1 + 1),h,rfl⟩
 refine WA_exit ?_
 refine Qz hT 1 [4] ⟨[(4,vb false)],[],1⟩ ?_
 obtain rfl:=Option.some.inj h
 exact rK [4] [] ⟨[(4,vb false)],[],1⟩ ⟨by kernel_rfl,rfl⟩
theorem ref22_meets_ok {n : Nat} {a0 : Stmt} {a1 : List ByteArray} {r : Bool} (h : ref22_meets n a0 a1 = some r) : PT Tryz.prog 51 [eStmt a0,po s_string a1] (vb r):=by
 unfold ref22_meets at h
 refine PT_bodyA hT Tryz.func51 rfl (by kernel_rfl) fun bad w=>?_
 refine Qzh hT 2 [1,2] [(2,bx 2 0)] [(2,cb 0 94 11 (eStmt a0))] 1 ?_
 refine Qgd hT 1 [1,7] [(7,eStmt a0)] ?_
 obtain ⟨r1,hr1,h⟩:=bsome h
 refine Og [] [(100,rb 1 s_string r1)] [eStmt a0] [eStmt a0] [] [(100,8,1)] [(8,rb 1 s_string r1)] (vs 100 1 s_string r1) (vs 8 1 s_string r1) 2 en78 (ref1_Touches_ok hr1) ?_
 refine Szh hT 1 [1,5] [(5,vs 8 1 s_string r1)] [(8,rb 1 s_string r1),(2,cb 0 94 11 (eStmt a0))] 2 ?_
 refine WA_seq ?_
 refine Qzd hT 1 [1,5,6] [(6,vi 0)] ?_
 refine WA_block ?_
 refine lK [1,5,6] [(8,8,0)] (fun k s=>∃ q,q ≤ k ∧ q ≤ n ∧ ∃ (i2 : Int),ref22_meets_L0 q a0 a1 r1 i2 = some r ∧ s = ⟨[(1,po s_string a1),(5,vs 8 0 s_string r1),(6,vi i2)],[(8,rb 0 s_string r1)],1⟩) n ⟨n,Nat.le_refl _,Nat.le_refl _,0,h,rfl⟩ (by rintro s ⟨q,hq,_,i2,h,_⟩; obtain rfl:=Nat.le_zero.1 hq; rw [ref22_meets_L0] at h; cases h) ?_
 clear h
 rintro k1 s ⟨q1,hk1,hn1,i2,h,rfl⟩
 rcases q1 with _ | q1
 ·rw [ref22_meets_L0] at h; cases h
 rw [ref22_meets_L0] at h
 refine WA_seq ?_
 refine Qgd hT 2 [1,5,6,9,10] [(9,vi i2),(10,vs 8 0 s_string r1)] ?_
 refine One' hT rfl (v_len_own s_string 8 0 true (rb 0 s_string r1) r1) ?_
 refine Szd hT 1 [1,5,6,12] [(12,vb (decide (i2 < (ln r1))))] ?_
 refine Ci h (fun h=>?_) fun h=>?_
 ·refine WA_skip ?_
  refine WA_seq ?_
  refine WA_block ?_
  refine Qgd hT 3 [1,5,6,15,16,17] [(15,po s_string a1),(16,vs 8 0 s_string r1),(17,vi i2)] ?_
  obtain ⟨x3,hx3,h⟩:=bsome h
  refine One' hT rfl (v_index_own s_string 8 0 true (rb 0 s_string r1) r1 .i64 i2 hx3) ?_
  refine Sgd hT 0 [1,5,6,15,18] [(18,.box 8 0 i2.toNat 0)] ?_
  refine One' hT rfl (v_load_row s_string 8 0 (rb 0 s_string r1) r1 i2.toNat 0 x3 (vw x3) (idx_some hx3).2) ?_
  refine Sgd hT 0 [1,5,6,15,19] [(19,vw x3)] ?_
  obtain ⟨r4,hr4,h⟩:=bsome h
  refine Pt' en79 (ref22_hasName_ok hr4) ?_
  refine Szd hT 0 [1,5,6,20] [(20,vb r4)] ?_
  refine Ci h (fun h=>?_) fun h=>?_
  ·refine Qz hT 1 [4] ⟨[(4,vb true)],[(8,rb 0 s_string r1)],1⟩ ?_
   obtain rfl:=Option.some.inj h
   exact rK [4] [] ⟨[(4,vb true)],[],1⟩ ⟨by kernel_rfl,rfl⟩
  refine WA_skip ?_
  refine Rgd hT 3 [1,5,6] [(6,vi (wr (i2 + 1)))] ?_
  exact oK [1,5,6] [(8,8,0)] ⟨_,by omega,by omega,wr (i2 + 1),h,rfl⟩
 refine WA_exit ?_
 refine Qzd hT 1 [4] [(4,vb false)] ?_
 obtain rfl:=Option.some.inj h
 exact rK [4] [] ⟨[(4,vb false)],[],1⟩ ⟨by kernel_rfl,rfl⟩
def ref22_within_spec (n : Nat) : Prop:=(∀ {a0 : Stmt} {r : Int},ref22_within n a0 = some r → PT Tryz.prog 52 [eStmt a0] (vi r))
theorem ref22_within_step (n : Nat) (ih : ∀ m,m < n → ref22_within_spec m) : ∀ {a0 : Stmt} {r : Int},ref22_within n a0 = some r → PT Tryz.prog 52 [eStmt a0] (vi r):=by
 intro a0 r h
 rcases n with _ | n
 ·rw [ref22_within] at h; cases h
 rw [ref22_within] at h
 refine PT_bodyA hT Tryz.func52 rfl (by kernel_rfl) fun bad w=>?_
 refine Qz hT 2 [1] ⟨[(1,bx 1 0)],[(1,cb 0 94 11 (eStmt a0))],1⟩ ?_
 refine Qzd hT 1 [1,3] [(3,vi 0)] ?_
 refine WA_seq ?_
 refine Qzd hT 1 [1,3,4] [(4,vi 0)] ?_
 refine WA_block ?_
 refine lK [1,3,4] [(1,1,0)] (fun k s=>∃ q,q ≤ k ∧ q ≤ n ∧ ∃ (i1 : Int),∃ (i2 : Int),ref22_within_L0 q a0 i1 i2 = some r ∧ s = ⟨[(1,bx 1 0),(3,vi i1),(4,vi i2)],[(1,cb 0 94 11 (eStmt a0))],1⟩) n ⟨n,Nat.le_refl _,Nat.le_refl _,0,0,h,rfl⟩ (by rintro s ⟨q,hq,_,i1,i2,h,_⟩; obtain rfl:=Nat.le_zero.1 hq; rw [ref22_within_L0] at h; cases h) ?_
 clear h
 rintro k1 s ⟨q1,hk1,hn1,i1,i2,h,rfl⟩
 rcases q1 with _ | q1
 ·rw [ref22_within_L0] at h; cases h
 rw [ref22_within_L0] at h
 refine WA_seq ?_
 refine Qgd hT 3 [1,3,4,6,8] [(6,vi i2),(8,po s_Stmt a0.Body)] ?_
 refine One' hT rfl (v_len s_Stmt .opt a0.Body) ?_
 refine Szd hT 1 [1,3,4,10] [(10,vb (decide (i2 < (ln a0.Body))))] ?_
 refine Ci h (fun h=>?_) fun h=>?_
 ·refine WA_skip ?_
  refine WA_seq ?_
  refine WA_block ?_
  refine Rgd hT 5 [1,4,14,16,17] [(14,vi (wr (i1 + 1))),(16,po s_Stmt a0.Body),(17,vi i2)] ?_
  obtain ⟨x3,hx3,h⟩:=bsome h
  refine One' hT rfl (v_index s_Stmt .opt a0.Body .i64 i2 hx3) ?_
  refine Sg hT 1 [1,4,14,19] ⟨[(1,bx 1 0),(4,vi i2),(14,vi (wr (i1 + 1))),(19,eStmt x3)],[(1,cb 0 94 11 (eStmt a0))],1⟩ ?_
  obtain ⟨r4,hr4,h⟩:=bsome h
  refine Pt' en52 ((ih _ (by omega)) hr4) ?_
  refine Szd hT 2 [1,3,4] [(3,vi (wr ((wr (i1 + 1)) + r4)))] ?_
  refine Rgd hT 3 [1,3,4] [(4,vi (wr (i2 + 1)))] ?_
  exact oK [1,3,4] [(1,1,0)] ⟨_,by omega,by omega,wr ((wr (i1 + 1)) + r4),wr (i2 + 1),h,rfl⟩
 refine WA_exit ?_
 refine WA_seq ?_
 refine Qzd hT 1 [1,3,5] [(5,vi 0)] ?_
 refine WA_block ?_
 refine lK [1,3,5] [(1,1,0)] (fun k s=>∃ q,q ≤ k ∧ q ≤ q1 ∧ ∃ (i5 : Int),∃ (i6 : Int),ref22_within_L1 q a0 i1 i2 i5 i6 = some r ∧ s = ⟨[(1,bx 1 0),(3,vi i5),(5,vi i6)],[(1,cb 0 94 11 (eStmt a0))],1⟩) q1 ⟨q1,Nat.le_refl _,Nat.le_refl _,i1,0,h,rfl⟩ (by rintro s ⟨q,hq,_,i5,i6,h,_⟩; obtain rfl:=Nat.le_zero.1 hq; rw [ref22_within_L1] at h; cases h) ?_
 clear h
 rintro k2 s ⟨q2,hk2,hn2,i5,i6,h,rfl⟩
 rcases q2 with _ | q2
 ·rw [ref22_within_L1] at h; cases h
 rw [ref22_within_L1] at h
 refine WA_seq ?_
 refine Qgd hT 3 [1,3,5,22,24] [(22,vi i6),(24,po s_Stmt a0.Else)] ?_
 refine One' hT rfl (v_len s_Stmt .opt a0.Else) ?_
 refine Szd hT 1 [1,3,5,26] [(26,vb (decide (i6 < (ln a0.Else))))] ?_
 refine Ci h (fun h=>?_) fun h=>?_
 ·refine WA_skip ?_
  refine WA_seq ?_
  refine WA_block ?_
  refine Rg hT 5 [1,5,30,32,33] ⟨[(1,bx 1 0),(5,vi i6),(30,vi (wr (i5 + 1))),(32,po s_Stmt a0.Else),(33,vi i6)],[(1,cb 0 94 11 (eStmt a0))],1⟩ ?_
  obtain ⟨x7,hx7,h⟩:=bsome h
  refine One' hT rfl (v_index s_Stmt .opt a0.Else .i64 i6 hx7) ?_
  refine Sgd hT 1 [1,5,30,35] [(35,eStmt x7)] ?_
  obtain ⟨r8,hr8,h⟩:=bsome h
  refine Pt' en52 ((ih _ (by omega)) hr8) ?_
  refine Szd hT 2 [1,3,5] [(3,vi (wr ((wr (i5 + 1)) + r8)))] ?_
  refine Rgd hT 3 [1,3,5] [(5,vi (wr (i6 + 1)))] ?_
  exact oK [1,3,5] [(1,1,0)] ⟨_,by omega,by omega,wr ((wr (i5 + 1)) + r8),wr (i6 + 1),h,rfl⟩
 refine WA_exit ?_
 refine Qzd hT 2 [2] [(2,vi i5)] ?_
 obtain rfl:=Option.some.inj h
 exact rK [2] [] ⟨[(2,vi i5)],[],1⟩ ⟨by kernel_rfl,rfl⟩
theorem ref22_within_all (n : Nat) : ref22_within_spec n:=by
 induction n using Nat.strongRecOn with
 | _ n ih=>exact ref22_within_step n ih
theorem ref22_within_ok {n : Nat} {a0 : Stmt} {r : Int} (h : ref22_within n a0 = some r) : PT Tryz.prog 52 [eStmt a0] (vi r):=(ref22_within_all n) h
theorem ref22_Wrapped_ok {n : Nat} {a0 : Prog} {a1 : List ByteArray} {r : List Int} (h : ref22_Wrapped n a0 a1 = some r) : GO Tryz.prog 22 [] [eProg a0,po s_string a1] (vs 100 1 s_int r) [(100,rb 1 s_int r)]:=by
 unfold ref22_Wrapped at h
 refine GO_bodyA hT Tryz.func22 rfl [] (by kernel_rfl) fun bad w m=>?_
 refine Qzh hT 2 [1,2] [(2,bx 2 1)] [(2,cb 1 26 2 (eProg a0))] 2 ?_
 refine Qgd hT 1 [1,8] [(8,eProg a0)] ?_
 obtain ⟨r1,hr1,h⟩:=bsome h
 refine Og [] [(100,rb 1 s_Stmt r1)] [eProg a0] [eProg a0] [] [(100,9,2)] [(9,rb 2 s_Stmt r1)] (vs 100 1 s_Stmt r1) (vs 9 2 s_Stmt r1) 3 en21 (ref1_List_ok hr1) ?_
 refine Szh hT 1 [1,5] [(5,vs 9 2 s_Stmt r1)] [(9,rb 2 s_Stmt r1),(2,cb 1 26 2 (eProg a0))] 3 ?_
 refine Qzd hT 1 [1,5,6] [(6,vn)] ?_
 refine WA_seq ?_
 refine Qzd hT 1 [1,5,6,7] [(7,vi 0)] ?_
 refine WA_block ?_
 refine aW [1,5,6,7] ⟨[(1,po s_string a1),(5,vs 9 2 s_Stmt r1),(6,vn),(7,vi 0)],[(9,rb 2 s_Stmt r1),(2,cb 1 26 2 (eProg a0))],3⟩ ?_
 refine WA_weak (wO 6 5000 3 1) ?_
 refine lK [1,5,6,7] [(9,9,1),(5000,10006,1)] (fun k s=>∃ q,q ≤ k ∧ q ≤ n ∧ ∃ (l2 : List Int),∃ (i3 : Int),ref22_Wrapped_L0 q a0 a1 r1 l2 i3 = some r ∧ s = ⟨[(1,po s_string a1),(5,vs 9 1 s_Stmt r1),(6,vs 10006 1 s_int l2),(7,vi i3)],[(9,rb 1 s_Stmt r1),(10006,rb 1 s_int l2)],2⟩) n ⟨n,Nat.le_refl _,Nat.le_refl _,([] : List Int),0,h,rfl⟩ (by rintro s ⟨q,hq,_,l2,i3,h,_⟩; obtain rfl:=Nat.le_zero.1 hq; rw [ref22_Wrapped_L0] at h; cases h) ?_
 clear h
 rintro k1 s ⟨q1,hk1,hn1,l2,i3,h,rfl⟩
 rcases q1 with _ | q1
 ·rw [ref22_Wrapped_L0] at h; cases h
 rw [ref22_Wrapped_L0] at h
 refine WA_seq ?_
 refine Qgd hT 2 [1,5,6,7,10,11] [(10,vi i3),(11,vs 9 1 s_Stmt r1)] ?_
 refine One' hT rfl (v_len_own s_Stmt 9 1 true (rb 1 s_Stmt r1) r1) ?_
 refine Szd hT 1 [1,5,6,7,13] [(13,vb (decide (i3 < (ln r1))))] ?_
 refine Ci h (fun h=>?_) fun h=>?_
 ·refine WA_skip ?_
  refine WA_seq ?_
  obtain ⟨J6,hJ6,h⟩:=jsome h
  refine WA_join (fun s=>∃ (l4 : List Int),∃ (i5 : Int),J6 l4 i5 = some r ∧ s = ⟨[(1,po s_string a1),(5,vs 9 1 s_Stmt r1),(6,vs 10006 1 s_int l4),(7,vi i5)],[(9,rb 1 s_Stmt r1),(10006,rb 1 s_int l4)],2⟩) ?_ ?_
  ·refine WA_block ?_
   refine Qgd hT 2 [1,5,6,7,16,17] [(16,vs 9 1 s_Stmt r1),(17,vi i3)] ?_
   obtain ⟨x7,hx7,h⟩:=bsome h
   refine One' hT rfl (v_index_own s_Stmt 9 1 true (rb 1 s_Stmt r1) r1 .i64 i3 hx7) ?_
   refine Sgd hT 0 [1,5,6,7,18] [(18,.box 9 1 i3.toNat 0)] ?_
   refine One' hT rfl (v_load_row s_Stmt 9 1 (rb 1 s_Stmt r1) r1 i3.toNat 0 x7 (eStmt x7) (idx_some hx7).2) ?_
   refine Sgd hT 1 [1,5,6,7,19,20] [(19,eStmt x7),(20,po s_string a1)] ?_
   obtain ⟨r8,hr8,h⟩:=bsome h
   refine Pt' en51 (ref22_meets_ok hr8) ?_
   refine Szd hT 0 [1,5,6,7,21] [(21,vb r8)] ?_
   refine Ci h (fun h=>?_) fun h=>?_
   ·refine Qgh hT 3 [1,5,7,22,24] [(22,vs 10006 1 s_int l2),(24,vs 24 2 s_int [i3])] [(24,⟨2,3,1,false,false,s_int.F [i3]⟩),(9,rb 1 s_Stmt r1),(10006,rb 1 s_int l2)] 3 ?_
    obtain ⟨g9,h⟩:=gsome h
    refine Oa hT s_int 10006 1 true l2 [i3] (eO s_int 24 2 true ⟨2,3,1,false,false,s_int.F [i3]⟩ [i3]) g9 ?_
    refine Szh hT 1 [1,5,6,7] [(6,vs 25 3 s_int (l2 ++ [i3]))] [(25,rb 3 s_int (l2 ++ [i3])),(24,⟨2,3,1,false,false,s_int.F [i3]⟩),(9,rb 1 s_Stmt r1)] 4 ?_
    refine Rgd hT 3 [1,5,6,26,27,28] [(26,vi i3),(27,vs 9 1 s_Stmt r1),(28,vi i3)] ?_
    obtain ⟨x10,hx10,h⟩:=bsome h
    refine One' hT rfl (v_index_own s_Stmt 9 1 true (rb 1 s_Stmt r1) r1 .i64 i3 hx10) ?_
    refine Sgd hT 0 [1,5,6,26,29] [(29,.box 9 1 i3.toNat 0)] ?_
    refine One' hT rfl (v_load_row s_Stmt 9 1 (rb 1 s_Stmt r1) r1 i3.toNat 0 x10 (eStmt x10) (idx_some hx10).2) ?_
    refine Sg hT 0 [1,5,6,26,30] ⟨[(1,po s_string a1),(5,vs 9 1 s_Stmt r1),(6,vs 25 3 s_int (l2 ++ [i3])),(26,vi i3),(30,eStmt x10)],[(25,rb 3 s_int (l2 ++ [i3])),(24,⟨2,3,1,false,false,s_int.F [i3]⟩),(9,rb 1 s_Stmt r1)],4⟩ ?_
    obtain ⟨r11,hr11,h⟩:=bsome h
    refine Pt' en52 (ref22_within_ok hr11) ?_
    refine Sgd hT 2 [1,5,6,7] [(7,vi (wr (i3 + r11)))] ?_
    exact oK [1,5,6,7] [(9,9,1),(25,10006,1)] ⟨l2 ++ [i3],wr (i3 + r11),h,rfl⟩
   exact sK [1,5,6,7] [(9,9,1),(10006,10006,1)] ⟨l2,i3,h,rfl⟩
  subst hJ6
  rintro s ⟨l4,i5,h,rfl⟩
  skip
  refine Rgd hT 3 [1,5,6,7] [(7,vi (wr (i5 + 1)))] ?_
  exact oK [1,5,6,7] [(9,9,1),(10006,10006,1)] ⟨_,by omega,by omega,l4,wr (i5 + 1),h,rfl⟩
 refine WA_exit ?_
 refine Qzd hT 2 [4] [(4,vs 10006 1 s_int l2)] ?_
 obtain rfl:=Option.some.inj h
 exact rK [4] [(10006,100,1)] ⟨[(4,vs 100 1 s_int l2)],[(100,rb 1 s_int l2)],2⟩ ⟨by kernel_rfl,by kernel_rfl,rfl⟩
theorem ref22_ends_ok {n : Nat} {a0 : List Stmt} {a1 : Int} {r : Int} (h : ref22_ends n a0 a1 = some r) : PT Tryz.prog 23 [po s_Stmt a0,vi a1] (vi r):=by
 unfold ref22_ends at h
 refine PT_bodyA hT Tryz.func23 rfl (by kernel_rfl) fun bad w=>?_
 refine Qzd hT 1 [0,1] [] ?_
 refine Qg hT 4 [6,7,8] ⟨[(6,vi (wr (a1 + 1))),(7,po s_Stmt a0),(8,vi a1)],[],0⟩ ?_
 obtain ⟨x1,hx1,h⟩:=bsome h
 refine One' hT rfl (v_index s_Stmt .opt a0 .i64 a1 hx1) ?_
 refine Sgd hT 1 [6,10] [(10,eStmt x1)] ?_
 obtain ⟨r2,hr2,h⟩:=bsome h
 refine Pt' en52 (ref22_within_ok hr2) ?_
 refine Sz hT 2 [4] ⟨[(4,vi (wr ((wr (a1 + 1)) + r2)))],[],0⟩ ?_
 obtain rfl:=Option.some.inj h
 exact rK [4] [] ⟨[(4,vi (wr ((wr (a1 + 1)) + r2)))],[],1⟩ ⟨by kernel_rfl,rfl⟩
theorem ref22_Inside_ok {n : Nat} {a0 : Prog} {a1 : List (List ByteArray)} {r : List Arr2_i64} (h : ref22_Inside n a0 a1 = some r) : GO Tryz.prog 8 [] [eProg a0,po s_Lstring a1] (vs 100 1 s_Arr2_i64 r) [(100,rb 1 s_Arr2_i64 r)]:=by
 unfold ref22_Inside at h
 refine GO_bodyA hT Tryz.func8 rfl [] (by kernel_rfl) fun bad w m=>?_
 refine Qzh hT 2 [1,2] [(2,bx 2 1)] [(2,cb 1 26 2 (eProg a0))] 2 ?_
 refine Qgd hT 1 [1,2,14] [(14,eProg a0)] ?_
 obtain ⟨r1,hr1,h⟩:=bsome h
 refine Og [] [(100,rb 1 s_Stmt r1)] [eProg a0] [eProg a0] [] [(100,15,2)] [(15,rb 2 s_Stmt r1)] (vs 100 1 s_Stmt r1) (vs 15 2 s_Stmt r1) 3 en21 (ref1_List_ok hr1) ?_
 refine Szh hT 1 [1,2,5] [(5,vs 15 2 s_Stmt r1)] [(15,rb 2 s_Stmt r1),(2,cb 1 26 2 (eProg a0))] 3 ?_
 refine Qzd hT 1 [1,2,5,6] [(6,vn)] ?_
 refine WA_seq ?_
 refine Qzd hT 1 [1,2,5,6,7] [(7,vi 0)] ?_
 refine WA_block ?_
 refine aW [1,2,5,6,7] ⟨[(1,po s_Lstring a1),(2,bx 2 1),(5,vs 15 2 s_Stmt r1),(6,vn),(7,vi 0)],[(15,rb 2 s_Stmt r1),(2,cb 1 26 2 (eProg a0))],3⟩ ?_
 refine WA_weak (wF 15 2 (rb 2 s_Stmt r1) [(1,po s_Lstring a1),(2,bx 2 1),(5,po s_Stmt r1),(6,vn),(7,vi 0)] [(2,cb 1 26 2 (eProg a0))] ⟨rfl,.keep _,rfl,.keep _,rfl,.hit true,rfl,.keep _,rfl,.keep _,trivial⟩ ⟨rfl,.inl rfl,trivial⟩) ?_
 refine WA_weak (wO 6 5000 38 2) ?_
 refine lK [1,2,5,6,7] [(2,2,1),(5000,10006,1)] (fun k s=>∃ q,q ≤ k ∧ q ≤ n ∧ ∃ (l2 : List Stmt),∃ (l3 : List Arr2_i64),∃ (i4 : Int),ref22_Inside_L0 q a0 a1 r1 l2 l3 i4 = some r ∧ s = ⟨[(1,po s_Lstring a1),(2,bx 2 1),(5,po s_Stmt l2),(6,vs 10006 1 s_Arr2_i64 l3),(7,vi i4)],[(2,cb 1 26 2 (eProg a0)),(10006,rb 1 s_Arr2_i64 l3)],2⟩) n ⟨n,Nat.le_refl _,Nat.le_refl _,r1,([] : List Arr2_i64),0,h,rfl⟩ (by rintro s ⟨q,hq,_,l2,l3,i4,h,_⟩; obtain rfl:=Nat.le_zero.1 hq; rw [ref22_Inside_L0] at h; cases h) ?_
 clear h
 rintro k1 s ⟨q1,hk1,hn1,l2,l3,i4,h,rfl⟩
 rcases q1 with _ | q1
 ·rw [ref22_Inside_L0] at h; cases h
 rw [ref22_Inside_L0] at h
 refine WA_seq ?_
 refine Qgd hT 2 [1,2,5,6,7,16,17] [(16,vi i4),(17,po s_Lstring a1)] ?_
 refine One' hT rfl (v_len s_Lstring .opt a1) ?_
 refine Sz hT 1 [1,2,5,6,7,19] ⟨[(1,po s_Lstring a1),(2,bx 2 1),(5,po s_Stmt l2),(6,vs 10006 1 s_Arr2_i64 l3),(7,vi i4),(19,vb (decide (i4 < (ln a1))))],[(2,cb 1 26 2 (eProg a0)),(10006,rb 1 s_Arr2_i64 l3)],2⟩ ?_
 refine Ci h (fun h=>?_) fun h=>?_
 ·refine WA_skip ?_
  refine WA_seq ?_
  refine WA_block ?_
  refine WA_seq ?_
  refine WA_drawW hT hM (by kernel_rfl) ?_
  refine Ds 3 [(24,vi i4),(23,po s_Lstring a1),(22,eProg a0)] [] [(0,[2])] ?_
  obtain ⟨x5,hx5,h⟩:=bsome h
  refine Dl rfl (v_index s_Lstring .opt a1 .i64 i4 hx5) ?_
  refine Dt (.ref (el_string x5) 0) ?_
  refine Ds 1 [(26,po s_string x5)] [] [] ?_
  obtain ⟨r6,hr6,h⟩:=bsome h
  refine Dg [] [(100,rb 1 s_int r6)] [eProg a0,po s_string x5] [eProg a0,po s_string x5] [] [(100,27,2)] [(27,rb 2 s_int r6)] (vs 100 1 s_int r6) (vs 27 2 s_int r6) 3 en22 (ref22_Wrapped_ok hr6) ?_
  refine Dh 1 [(8,vs 27 2 s_int r6)] [(27,rb 2 s_int r6),(2,cb 1 26 2 (eProg a0)),(10006,rb 1 s_Arr2_i64 l3)] 3 [] [] ?_
  refine De ?_
  refine Wk_done ?_
  refine Qzd hT 1 [1,2,5,6,7,8,9] [(9,vi 0)] ?_
  refine WA_block ?_
  refine lK [1,2,5,6,7,8,9] [(2,2,1),(27,27,1),(10006,10006,1)] (fun k s=>∃ q,q ≤ k ∧ q ≤ q1 ∧ ∃ (l7 : List Arr2_i64),∃ (i8 : Int),ref22_Inside_L1 q a0 a1 r1 l2 l3 i4 x5 r6 l7 i8 = some r ∧ s = ⟨[(1,po s_Lstring a1),(2,bx 2 1),(5,po s_Stmt l2),(6,vs 10006 1 s_Arr2_i64 l7),(7,vi i4),(8,vs 27 1 s_int r6),(9,vi i8)],[(2,cb 1 26 2 (eProg a0)),(27,rb 1 s_int r6),(10006,rb 1 s_Arr2_i64 l7)],2⟩) q1 ⟨q1,Nat.le_refl _,Nat.le_refl _,l3,0,h,rfl⟩ (by rintro s ⟨q,hq,_,l7,i8,h,_⟩; obtain rfl:=Nat.le_zero.1 hq; rw [ref22_Inside_L1] at h; cases h) ?_
  clear h
  rintro k2 s ⟨q2,hk2,hn2,l7,i8,h,rfl⟩
  rcases q2 with _ | q2
  ·rw [ref22_Inside_L1] at h; cases h
  rw [ref22_Inside_L1] at h
  refine WA_seq ?_
  refine Qgd hT 2 [1,2,5,6,7,8,9,28,29] [(28,vi i8),(29,po s_Lstring a1)] ?_
  refine One' hT rfl (v_len s_Lstring .opt a1) ?_
  refine Szd hT 1 [1,2,5,6,7,8,9,31] [(31,vb (decide (i8 < (ln a1))))] ?_
  refine Ci h (fun h=>?_) fun h=>?_
  ·refine WA_skip ?_
   refine WA_seq ?_
   obtain ⟨J10,hJ10,h⟩:=jsome h
   refine WA_join (fun s=>∃ (l9 : List Arr2_i64),J10 l9 = some r ∧ s = ⟨[(1,po s_Lstring a1),(2,bx 2 1),(5,po s_Stmt l2),(6,vs 10006 1 s_Arr2_i64 l9),(7,vi i4),(8,vs 27 1 s_int r6),(9,vi i8)],[(2,cb 1 26 2 (eProg a0)),(27,rb 1 s_int r6),(10006,rb 1 s_Arr2_i64 l9)],2⟩) ?_ ?_
   ·refine WA_block ?_
    refine WA_seq ?_
    refine WA_drawW hT hM (by kernel_rfl) ?_
    refine Ds 3 [(36,vi i8),(35,po s_Lstring a1),(34,eProg a0)] [] [(0,[2])] ?_
    obtain ⟨x11,hx11,h⟩:=bsome h
    refine Dl rfl (v_index s_Lstring .opt a1 .i64 i8 hx11) ?_
    refine Dt (.ref (el_string x11) 0) ?_
    refine Ds 1 [(38,po s_string x11)] [] [] ?_
    obtain ⟨r12,hr12,h⟩:=bsome h
    refine Dg [] [(100,rb 1 s_int r12)] [eProg a0,po s_string x11] [eProg a0,po s_string x11] [] [(100,39,2)] [(39,rb 2 s_int r12)] (vs 100 1 s_int r12) (vs 39 2 s_int r12) 3 en22 (ref22_Wrapped_ok hr12) ?_
    refine Dh 1 [(10,vs 39 2 s_int r12)] [(39,rb 2 s_int r12),(2,cb 1 26 2 (eProg a0)),(27,rb 1 s_int r6),(10006,rb 1 s_Arr2_i64 l7)] 3 [] [] ?_
    refine De ?_
    refine Wk_done ?_
    refine Qzd hT 1 [1,2,5,6,7,8,9,10,11] [(11,vb false)] ?_
    refine WA_seq ?_
    refine Qzd hT 1 [1,2,5,6,7,8,9,10,11,12] [(12,vi 0)] ?_
    refine WA_block ?_
    refine lK [1,2,5,6,7,8,9,10,11,12] [(2,2,1),(27,27,1),(39,39,1),(10006,10006,1)] (fun k s=>∃ q,q ≤ k ∧ q ≤ q2 ∧ ∃ (b13 : Bool),∃ (i14 : Int),ref22_Inside_L2 q a0 a1 r1 l2 l3 i4 x5 r6 l7 i8 J10 x11 r12 b13 i14 = some r ∧ s = ⟨[(1,po s_Lstring a1),(2,bx 2 1),(5,po s_Stmt l2),(6,vs 10006 1 s_Arr2_i64 l7),(7,vi i4),(8,vs 27 1 s_int r6),(9,vi i8),(10,vs 39 1 s_int r12),(11,vb b13),(12,vi i14)],[(2,cb 1 26 2 (eProg a0)),(27,rb 1 s_int r6),(39,rb 1 s_int r12),(10006,rb 1 s_Arr2_i64 l7)],2⟩) q2 ⟨q2,Nat.le_refl _,Nat.le_refl _,false,0,h,rfl⟩ (by rintro s ⟨q,hq,_,b13,i14,h,_⟩; obtain rfl:=Nat.le_zero.1 hq; rw [ref22_Inside_L2] at h; cases h) ?_
    clear h
    rintro k3 s ⟨q3,hk3,hn3,b13,i14,h,rfl⟩
    rcases q3 with _ | q3
    ·rw [ref22_Inside_L2] at h; cases h
    rw [ref22_Inside_L2] at h
    refine WA_seq ?_
    refine Qgd hT 2 [1,2,5,6,7,8,9,10,11,12,40,41] [(40,vi i14),(41,vs 27 1 s_int r6)] ?_
    refine One' hT rfl (v_len_own s_int 27 1 true (rb 1 s_int r6) r6) ?_
    refine Szd hT 1 [1,2,5,6,7,8,9,10,11,12,43] [(43,vb (decide (i14 < (ln r6))))] ?_
    refine Ci h (fun h=>?_) fun h=>?_
    ·refine WA_skip ?_
     refine WA_seq ?_
     refine WA_block ?_
     refine Qzd hT 1 [1,2,5,6,7,8,9,10,11,12,13] [(13,vi 0)] ?_
     refine WA_block ?_
     refine lK [1,2,5,6,7,8,9,10,11,12,13] [(2,2,1),(27,27,1),(39,39,1),(10006,10006,1)] (fun k s=>∃ q,q ≤ k ∧ q ≤ q3 ∧ ∃ (b15 : Bool),∃ (i16 : Int),ref22_Inside_L3 q a0 a1 r1 l2 l3 i4 x5 r6 l7 i8 J10 x11 r12 b13 i14 b15 i16 = some r ∧ s = ⟨[(1,po s_Lstring a1),(2,bx 2 1),(5,po s_Stmt l2),(6,vs 10006 1 s_Arr2_i64 l7),(7,vi i4),(8,vs 27 1 s_int r6),(9,vi i8),(10,vs 39 1 s_int r12),(11,vb b15),(12,vi i14),(13,vi i16)],[(2,cb 1 26 2 (eProg a0)),(27,rb 1 s_int r6),(39,rb 1 s_int r12),(10006,rb 1 s_Arr2_i64 l7)],2⟩) q3 ⟨q3,Nat.le_refl _,Nat.le_refl _,b13,0,h,rfl⟩ (by rintro s ⟨q,hq,_,b15,i16,h,_⟩; obtain rfl:=Nat.le_zero.1 hq; rw [ref22_Inside_L3] at h; cases h) ?_
     clear h
     rintro k4 s ⟨q4,hk4,hn4,b15,i16,h,rfl⟩
     rcases q4 with _ | q4
     ·rw [ref22_Inside_L3] at h; cases h
     rw [ref22_Inside_L3] at h
     refine WA_seq ?_
     refine Qgd hT 2 [1,2,5,6,7,8,9,10,11,12,13,46,47] [(46,vi i16),(47,vs 39 1 s_int r12)] ?_
     refine One' hT rfl (v_len_own s_int 39 1 true (rb 1 s_int r12) r12) ?_
     refine Szd hT 1 [1,2,5,6,7,8,9,10,11,12,13,49] [(49,vb (decide (i16 < (ln r12))))] ?_
     refine Ci h (fun h=>?_) fun h=>?_
     ·refine WA_skip ?_
      refine WA_seq ?_
      obtain ⟨J18,hJ18,h⟩:=jsome h
      refine WA_join (fun s=>∃ (b17 : Bool),J18 b17 = some r ∧ s = ⟨[(1,po s_Lstring a1),(2,bx 2 1),(5,po s_Stmt l2),(6,vs 10006 1 s_Arr2_i64 l7),(7,vi i4),(8,vs 27 1 s_int r6),(9,vi i8),(10,vs 39 1 s_int r12),(11,vb b17),(12,vi i14),(13,vi i16)],[(2,cb 1 26 2 (eProg a0)),(27,rb 1 s_int r6),(39,rb 1 s_int r12),(10006,rb 1 s_Arr2_i64 l7)],2⟩) ?_ ?_
      ·refine WA_block ?_
       refine WA_drawW hT hM (by kernel_rfl) ?_
       refine Ds 2 [(53,vb b15),(52,vb b15)] [] [] ?_
       cases hb : (b15 : Bool)
       ·replace h:=cfalse hb h
        refine Ds 2 [(55,vi i16),(54,vs 39 1 s_int r12)] [] [] ?_
        obtain ⟨x19,hx19,h⟩:=bsome h
        refine Dl rfl (v_index_own s_int 39 1 true (rb 1 s_int r12) r12 .i64 i16 hx19) ?_
        refine Dt (.box 39 1 i16.toNat 0) ?_
        refine Dl rfl (v_load_row s_int 39 1 (rb 1 s_int r12) r12 i16.toNat 0 x19 (vi x19) (idx_some hx19).2) ?_
        refine Dt (vi x19) ?_
        refine Ds 2 [(59,vi i14),(58,vs 27 1 s_int r6)] [] [] ?_
        obtain ⟨x20,hx20,h⟩:=bsome h
        refine Dl rfl (v_index_own s_int 27 1 true (rb 1 s_int r6) r6 .i64 i14 hx20) ?_
        refine Dt (.box 27 1 i14.toNat 0) ?_
        refine Dl rfl (v_load_row s_int 27 1 (rb 1 s_int r6) r6 i14.toNat 0 x20 (vi x20) (idx_some hx20).2) ?_
        refine Dt (vi x20) ?_
        refine Ds 2 [(63,vb (decide (x19 > x20))),(62,vb (decide (x19 > x20)))] [] [] ?_
        cases hb : (decide (x19 > x20) : Bool)
        ·replace h:=cfalse hb h
         refine Ds 14 [(11,vb false),(76,vb false),(75,vb false),(74,vU),(73,vU),(72,vU),(71,vU),(70,vU),(69,vU),(68,vU),(67,vU),(66,vU),(65,vU),(64,vU)] [] [] ?_
         refine De ?_
         exact wK [1,2,5,6,7,8,9,10,11,12,13] [(2,2,1),(27,27,1),(39,39,1),(10006,10006,1)] ⟨false,h,rfl⟩
        replace h:=ctrue hb h
        refine Ds 2 [(65,vi i16),(64,vs 39 1 s_int r12)] [] [] ?_
        obtain ⟨x21,hx21,h⟩:=bsome h
        refine Dl rfl (v_index_own s_int 39 1 true (rb 1 s_int r12) r12 .i64 i16 hx21) ?_
        refine Dt (.box 39 1 i16.toNat 0) ?_
        refine Dl rfl (v_load_row s_int 39 1 (rb 1 s_int r12) r12 i16.toNat 0 x21 (vi x21) (idx_some hx21).2) ?_
        refine Dt (vi x21) ?_
        refine Ds 3 [(70,vi i14),(69,vs 27 1 s_int r6),(68,po s_Stmt l2)] [] [] ?_
        obtain ⟨x22,hx22,h⟩:=bsome h
        refine Dl rfl (v_index_own s_int 27 1 true (rb 1 s_int r6) r6 .i64 i14 hx22) ?_
        refine Dt (.box 27 1 i14.toNat 0) ?_
        refine Dl rfl (v_load_row s_int 27 1 (rb 1 s_int r6) r6 i14.toNat 0 x22 (vi x22) (idx_some hx22).2) ?_
        refine Dt (vi x22) ?_
        obtain ⟨r23,hr23,h⟩:=bsome h
        refine Dp [po s_Stmt l2,vi x22] (vi r23) en23 (ref22_ends_ok hr23) ?_
        refine Ds 4 [(11,vb (decide (x21 < r23))),(76,vb (decide (x21 < r23))),(75,vb (decide (x21 < r23))),(74,vb (decide (x21 < r23)))] [] [] ?_
        refine De ?_
        exact wK [1,2,5,6,7,8,9,10,11,12,13] [(2,2,1),(27,27,1),(39,39,1),(10006,10006,1)] ⟨decide (x21 < r23),h,rfl⟩
       replace h:=ctrue hb h
       refine Ds 24 [(11,vb true),(76,vb true),(75,vU),(74,vU),(73,vU),(72,vU),(71,vU),(70,vU),(69,vU),(68,vU),(67,vU),(66,vU),(65,vU),(64,vU),(63,vU),(62,vU),(61,vU),(60,vU),(59,vU),(58,vU),(57,vU),(56,vU),(55,vU),(54,vU)] [] [] ?_
       refine De ?_
       exact wK [1,2,5,6,7,8,9,10,11,12,13] [(2,2,1),(27,27,1),(39,39,1),(10006,10006,1)] ⟨true,h,rfl⟩
      subst hJ18
      rintro s ⟨b17,h,rfl⟩
      skip
      refine Rgd hT 3 [1,2,5,6,7,8,9,10,11,12,13] [(13,vi (wr (i16 + 1)))] ?_
      exact oK [1,2,5,6,7,8,9,10,11,12,13] [(2,2,1),(27,27,1),(39,39,1),(10006,10006,1)] ⟨_,by omega,by omega,b17,wr (i16 + 1),h,rfl⟩
     refine WA_exit ?_
     refine Rgd hT 3 [1,2,5,6,7,8,9,10,11,12] [(12,vi (wr (i14 + 1)))] ?_
     exact oK [1,2,5,6,7,8,9,10,11,12] [(2,2,1),(27,27,1),(39,39,1),(10006,10006,1)] ⟨_,by omega,by omega,b15,wr (i14 + 1),h,rfl⟩
    refine WA_exit ?_
    refine WA_seq ?_
    obtain ⟨J25,hJ25,h⟩:=jsome h
    refine WA_join (fun s=>∃ (b24 : Bool),J25 b24 = some r ∧ s = ⟨[(1,po s_Lstring a1),(2,bx 2 1),(5,po s_Stmt l2),(6,vs 10006 1 s_Arr2_i64 l7),(7,vi i4),(8,vs 27 1 s_int r6),(9,vi i8),(82,vb b24)],[(2,cb 1 26 2 (eProg a0)),(27,rb 1 s_int r6),(10006,rb 1 s_Arr2_i64 l7)],2⟩) ?_ ?_
    ·refine Rgd hT 2 [1,2,5,6,7,8,9,78] [(78,vb b13)] ?_
     cases hb : (b13 : Bool)
     ·replace h:=cfalse hb h
      refine Sgd hT 4 [1,2,5,6,7,8,9,82] [(82,vb false)] ?_
      exact oK [1,2,5,6,7,8,9,82] [(2,2,1),(27,27,1),(10006,10006,1)] ⟨false,h,rfl⟩
     replace h:=ctrue hb h
     refine Sgd hT 4 [1,2,5,6,7,8,9,82] [(82,vb (i4 != i8))] ?_
     exact oK [1,2,5,6,7,8,9,82] [(2,2,1),(27,27,1),(10006,10006,1)] ⟨(i4 != i8),h,rfl⟩
    subst hJ25
    rintro s ⟨b24,h,rfl⟩
    skip
    refine Ci h (fun h=>?_) fun h=>?_
    ·refine Rgh hT 5 [1,2,5,7,8,9,83,87] [(83,vs 10006 1 s_Arr2_i64 l7),(87,vs 87 2 s_Arr2_i64 [(Arr2_i64.mk i4 i8)])] [(87,⟨2,38,2,false,false,s_Arr2_i64.F [(Arr2_i64.mk i4 i8)]⟩),(2,cb 1 26 2 (eProg a0)),(27,rb 1 s_int r6),(10006,rb 1 s_Arr2_i64 l7)] 3 ?_
     obtain ⟨g26,h⟩:=gsome h
     refine Oa hT s_Arr2_i64 10006 1 true l7 [(Arr2_i64.mk i4 i8)] (eO s_Arr2_i64 87 2 true ⟨2,38,2,false,false,s_Arr2_i64.F [(Arr2_i64.mk i4 i8)]⟩ [(Arr2_i64.mk i4 i8)]) g26 ?_
     refine Sgh hT 1 [1,2,5,6,7,8,9] [(6,vs 88 3 s_Arr2_i64 (l7 ++ [(Arr2_i64.mk i4 i8)]))] [(88,rb 3 s_Arr2_i64 (l7 ++ [(Arr2_i64.mk i4 i8)])),(87,⟨2,38,2,false,false,s_Arr2_i64.F [(Arr2_i64.mk i4 i8)]⟩),(2,cb 1 26 2 (eProg a0)),(27,rb 1 s_int r6)] 4 ?_
     exact oK [1,2,5,6,7,8,9] [(2,2,1),(27,27,1),(88,10006,1)] ⟨l7 ++ [(Arr2_i64.mk i4 i8)],h,rfl⟩
    exact sK [1,2,5,6,7,8,9] [(2,2,1),(27,27,1),(10006,10006,1)] ⟨l7,h,rfl⟩
   subst hJ10
   rintro s ⟨l9,h,rfl⟩
   skip
   refine Rgd hT 3 [1,2,5,6,7,8,9] [(9,vi (wr (i8 + 1)))] ?_
   exact oK [1,2,5,6,7,8,9] [(2,2,1),(27,27,1),(10006,10006,1)] ⟨_,by omega,by omega,l9,wr (i8 + 1),h,rfl⟩
  refine WA_exit ?_
  refine Rgd hT 3 [1,2,5,6,7] [(7,vi (wr (i4 + 1)))] ?_
  exact oK [1,2,5,6,7] [(2,2,1),(10006,10006,1)] ⟨_,by omega,by omega,l2,l7,wr (i4 + 1),h,rfl⟩
 refine WA_exit ?_
 refine Qz hT 2 [4] ⟨[(4,vs 10006 1 s_Arr2_i64 l3)],[(2,cb 1 26 2 (eProg a0)),(10006,rb 1 s_Arr2_i64 l3)],2⟩ ?_
 obtain rfl:=Option.some.inj h
 exact rK [4] [(10006,100,1)] ⟨[(4,vs 100 1 s_Arr2_i64 l3)],[(100,rb 1 s_Arr2_i64 l3)],2⟩ ⟨by kernel_rfl,by kernel_rfl,rfl⟩
theorem math_bits_Mul64_ok {n : Nat} {a0 : Int} {a1 : Int} {r : Int × Int} (h : math_bits_Mul64 n a0 a1 = some r) : PT Tryz.prog 81 [.p (.int .u64 a0),.p (.int .u64 a1)] (.tup [.p (.int .u64 r.1),.p (.int .u64 r.2)]):=by
 unfold math_bits_Mul64 at h
 refine PT_bodyA hT Tryz.func81 rfl (by kernel_rfl) fun bad w=>?_
 refine Qzd hT 2 [0,1] [] ?_
 refine Qzd hT 3 [0,1,6] [(6,.p (.int .u64 (IntKind.u64.wrap ((BitVec.ofInt 64 a0 &&& BitVec.ofInt 64 4294967295).toNat : Nat))))] ?_
 refine Qgd hT 1 [0,1,6,16] [(16,.p (.int .u64 a0))] ?_
 obtain ⟨x1,hx1,h⟩:=bsome h
 refine One' hT rfl (ev_shr .u64 .u64 a0 32 hx1 (by kernel_rfl) (by kernel_rfl)) ?_
 refine Szd hT 1 [0,1,6,7] [(7,.p (.int .u64 x1))] ?_
 refine Qzd hT 3 [0,1,6,7,8] [(8,.p (.int .u64 (IntKind.u64.wrap ((BitVec.ofInt 64 a1 &&& BitVec.ofInt 64 4294967295).toNat : Nat))))] ?_
 refine Qgd hT 1 [0,1,6,7,8,20] [(20,.p (.int .u64 a1))] ?_
 obtain ⟨x2,hx2,h⟩:=bsome h
 refine One' hT rfl (ev_shr .u64 .u64 a1 32 hx2 (by kernel_rfl) (by kernel_rfl)) ?_
 refine Szd hT 1 [0,1,6,7,8,9] [(9,.p (.int .u64 x2))] ?_
 refine Qzd hT 4 [0,1,6,7,8,9,10] [(10,.p (.int .u64 (IntKind.u64.wrap ((IntKind.u64.wrap ((BitVec.ofInt 64 a0 &&& BitVec.ofInt 64 4294967295).toNat : Nat)) * (IntKind.u64.wrap ((BitVec.ofInt 64 a1 &&& BitVec.ofInt 64 4294967295).toNat : Nat))))))] ?_
 refine Qg hT 4 [0,1,6,7,9,27,28] ⟨[(0,.p (.int .u64 a0)),(1,.p (.int .u64 a1)),(6,.p (.int .u64 (IntKind.u64.wrap ((BitVec.ofInt 64 a0 &&& BitVec.ofInt 64 4294967295).toNat : Nat)))),(7,.p (.int .u64 x1)),(9,.p (.int .u64 x2)),(27,.p (.int .u64 (IntKind.u64.wrap (x1 * (IntKind.u64.wrap ((BitVec.ofInt 64 a1 &&& BitVec.ofInt 64 4294967295).toNat : Nat)))))),(28,.p (.int .u64 (IntKind.u64.wrap ((IntKind.u64.wrap ((BitVec.ofInt 64 a0 &&& BitVec.ofInt 64 4294967295).toNat : Nat)) * (IntKind.u64.wrap ((BitVec.ofInt 64 a1 &&& BitVec.ofInt 64 4294967295).toNat : Nat))))))],[],0⟩ ?_
 obtain ⟨x3,hx3,h⟩:=bsome h
 refine One' hT rfl (ev_shr .u64 .u64 (IntKind.u64.wrap ((IntKind.u64.wrap ((BitVec.ofInt 64 a0 &&& BitVec.ofInt 64 4294967295).toNat : Nat)) * (IntKind.u64.wrap ((BitVec.ofInt 64 a1 &&& BitVec.ofInt 64 4294967295).toNat : Nat)))) 32 hx3 (by kernel_rfl) (by kernel_rfl)) ?_
 refine Szd hT 2 [0,1,6,7,9,11] [(11,.p (.int .u64 (IntKind.u64.wrap ((IntKind.u64.wrap (x1 * (IntKind.u64.wrap ((BitVec.ofInt 64 a1 &&& BitVec.ofInt 64 4294967295).toNat : Nat)))) + x3))))] ?_
 refine Qzd hT 3 [0,1,6,7,9,11,12] [(12,.p (.int .u64 (IntKind.u64.wrap ((BitVec.ofInt 64 (IntKind.u64.wrap ((IntKind.u64.wrap (x1 * (IntKind.u64.wrap ((BitVec.ofInt 64 a1 &&& BitVec.ofInt 64 4294967295).toNat : Nat)))) + x3)) &&& BitVec.ofInt 64 4294967295).toNat : Nat))))] ?_
 refine Qgd hT 1 [0,1,6,7,9,12,33] [(33,.p (.int .u64 (IntKind.u64.wrap ((IntKind.u64.wrap (x1 * (IntKind.u64.wrap ((BitVec.ofInt 64 a1 &&& BitVec.ofInt 64 4294967295).toNat : Nat)))) + x3))))] ?_
 obtain ⟨x4,hx4,h⟩:=bsome h
 refine One' hT rfl (ev_shr .u64 .u64 (IntKind.u64.wrap ((IntKind.u64.wrap (x1 * (IntKind.u64.wrap ((BitVec.ofInt 64 a1 &&& BitVec.ofInt 64 4294967295).toNat : Nat)))) + x3)) 32 hx4 (by kernel_rfl) (by kernel_rfl)) ?_
 refine Szd hT 1 [0,1,6,7,9,12,13] [(13,.p (.int .u64 x4))] ?_
 refine Qzd hT 6 [0,1,7,9,12,13] [(12,.p (.int .u64 (IntKind.u64.wrap ((IntKind.u64.wrap ((BitVec.ofInt 64 (IntKind.u64.wrap ((IntKind.u64.wrap (x1 * (IntKind.u64.wrap ((BitVec.ofInt 64 a1 &&& BitVec.ofInt 64 4294967295).toNat : Nat)))) + x3)) &&& BitVec.ofInt 64 4294967295).toNat : Nat)) + (IntKind.u64.wrap ((IntKind.u64.wrap ((BitVec.ofInt 64 a0 &&& BitVec.ofInt 64 4294967295).toNat : Nat)) * x2))))))] ?_
 refine Qgd hT 6 [0,1,44,45] [(44,.p (.int .u64 (IntKind.u64.wrap ((IntKind.u64.wrap (x1 * x2)) + x4)))),(45,.p (.int .u64 (IntKind.u64.wrap ((IntKind.u64.wrap ((BitVec.ofInt 64 (IntKind.u64.wrap ((IntKind.u64.wrap (x1 * (IntKind.u64.wrap ((BitVec.ofInt 64 a1 &&& BitVec.ofInt 64 4294967295).toNat : Nat)))) + x3)) &&& BitVec.ofInt 64 4294967295).toNat : Nat)) + (IntKind.u64.wrap ((IntKind.u64.wrap ((BitVec.ofInt 64 a0 &&& BitVec.ofInt 64 4294967295).toNat : Nat)) * x2))))))] ?_
 obtain ⟨x5,hx5,h⟩:=bsome h
 refine One' hT rfl (ev_shr .u64 .u64 (IntKind.u64.wrap ((IntKind.u64.wrap ((BitVec.ofInt 64 (IntKind.u64.wrap ((IntKind.u64.wrap (x1 * (IntKind.u64.wrap ((BitVec.ofInt 64 a1 &&& BitVec.ofInt 64 4294967295).toNat : Nat)))) + x3)) &&& BitVec.ofInt 64 4294967295).toNat : Nat)) + (IntKind.u64.wrap ((IntKind.u64.wrap ((BitVec.ofInt 64 a0 &&& BitVec.ofInt 64 4294967295).toNat : Nat)) * x2)))) 32 hx5 (by kernel_rfl) (by kernel_rfl)) ?_
 refine Szd hT 2 [0,1,4] [(4,.p (.int .u64 (IntKind.u64.wrap ((IntKind.u64.wrap ((IntKind.u64.wrap (x1 * x2)) + x4)) + x5))))] ?_
 refine Qzd hT 4 [4,5] [(5,.p (.int .u64 (IntKind.u64.wrap (a0 * a1))))] ?_
 obtain rfl:=Option.some.inj h
 exact rK [4,5] [] ⟨[(4,.p (.int .u64 (IntKind.u64.wrap ((IntKind.u64.wrap ((IntKind.u64.wrap (x1 * x2)) + x4)) + x5)))),(5,.p (.int .u64 (IntKind.u64.wrap (a0 * a1))))],[],1⟩ ⟨by kernel_rfl,rfl⟩
theorem math_bits_Mul_ok {n : Nat} {a0 : Int} {a1 : Int} {r : Int × Int} (h : math_bits_Mul n a0 a1 = some r) : PT Tryz.prog 53 [.p (.int .u64 a0),.p (.int .u64 a1)] (.tup [.p (.int .u64 r.1),.p (.int .u64 r.2)]):=by
 unfold math_bits_Mul at h
 refine PT_bodyA hT Tryz.func53 rfl (by kernel_rfl) fun bad w=>?_
 refine Qzd hT 2 [0,1] [] ?_
 refine WA_seq ?_
 refine WA_cond false (by kernel_rfl) (fun hb=>by cases hb) (fun _=>?_)
 refine WA_skip ?_
 refine Qg hT 2 [23,24] ⟨[(23,.p (.int .u64 a0)),(24,.p (.int .u64 a1))],[],0⟩ ?_
 obtain ⟨r1,hr1,h⟩:=bsome h
 refine Pt' en81 (math_bits_Mul64_ok hr1) ?_
 refine Sz hT 5 [8,9] ⟨[(8,.p (.int .u64 r1.1)),(9,.p (.int .u64 r1.2))],[],0⟩ ?_
 refine Qz hT 4 [4,5] ⟨[(4,.p (.int .u64 r1.1)),(5,.p (.int .u64 r1.2))],[],0⟩ ?_
 obtain rfl:=Option.some.inj h
 exact rK [4,5] [] ⟨[(4,.p (.int .u64 r1.1)),(5,.p (.int .u64 r1.2))],[],1⟩ ⟨by kernel_rfl,rfl⟩
theorem Repeat_int_ok {n : Nat} {a0 : List Int} {a1 : Int} {r : List Int} (h : Repeat_int n a0 a1 = some r) : GO Tryz.prog 24 [] [po s_int a0,vi a1] (vs 100 1 s_int r) [(100,rb 1 s_int r)]:=by
 unfold Repeat_int at h
 refine GO_bodyA hT Tryz.func24 rfl [] (by kernel_rfl) fun bad w m=>?_
 refine Qzd hT 1 [0,1] [] ?_
 refine WA_seq ?_
 refine Qzd hT 2 [0,1,10] [(10,vb (decide (a1 < 0)))] ?_
 refine Ci h (fun h=>?_) fun h=>?_
 ·refine WA_region ?_
  cases h
 refine WA_skip ?_
 refine Qgd hT 1 [0,1,13] [(13,po s_int a0)] ?_
 refine One' hT rfl (v_len s_int .opt a0) ?_
 refine Sgd hT 3 [0,15,17] [(15,.p (.int .u64 (IntKind.u64.wrap (ln a0)))),(17,.p (.int .u64 (IntKind.u64.wrap a1)))] ?_
 obtain ⟨r1,hr1,h⟩:=bsome h
 refine Pt' en53 (math_bits_Mul_ok hr1) ?_
 refine Szd hT 5 [0,5,6] [(5,.p (.int .u64 r1.1)),(6,.p (.int .u64 r1.2))] ?_
 refine WA_seq ?_
 refine WA_seq ?_
 obtain ⟨J3,hJ3,h⟩:=jsome h
 refine WA_join (fun s=>∃ (b2 : Bool),J3 b2 = some r ∧ s = ⟨[(0,po s_int a0),(6,.p (.int .u64 r1.2)),(26,vb b2)],[],2⟩) ?_ ?_
 ·refine Rg hT 3 [0,6,23] ⟨[(0,po s_int a0),(6,.p (.int .u64 r1.2)),(23,vb (decide (r1.1 > 0)))],[],1⟩ ?_
  cases hb : (decide (r1.1 > 0) : Bool)
  ·replace h:=cfalse hb h
   refine Sgd hT 3 [0,6,26] [(26,vb (decide (r1.2 > 9223372036854775807)))] ?_
   exact oK [0,6,26] [] ⟨decide (r1.2 > 9223372036854775807),h,rfl⟩
  replace h:=ctrue hb h
  refine Sgd hT 3 [0,6,26] [(26,vb true)] ?_
  exact oK [0,6,26] [] ⟨true,h,rfl⟩
 subst hJ3
 rintro s ⟨b2,h,rfl⟩
 refine Ci h (fun h=>?_) fun h=>?_
 ·refine WA_region ?_
  cases h
 refine WA_skip ?_
 refine Qgd hT 2 [0,29] [(29,vi (wr r1.2))] ?_
 obtain ⟨g4,h⟩:=gsome h
 refine One' hT rfl (ev_make s_int (wr r1.2) 0 g4 (by kernel_rfl) (by kernel_rfl) rfl) ?_
 refine Szh hT 1 [0,7] [(7,vs 30 2 s_int (List.replicate (wr r1.2).toNat (0 : Int)))] [(30,⟨2,3,1,false,false,s_int.F (List.replicate (wr r1.2).toNat (0 : Int))⟩)] 3 ?_
 refine Qgd hT 2 [7,31,32] [(31,vs 30 2 s_int (List.replicate (wr r1.2).toNat (0 : Int))),(32,po s_int a0)] ?_
 refine One' hT rfl (ev_copy s_int 30 2 (List.replicate (wr r1.2).toNat (0 : Int)) a0 (by kernel_rfl) (by kernel_rfl) (by kernel_rfl)) ?_
 refine WO_weak (wL [(33,vi ((min a0.length (List.replicate (wr r1.2).toNat (0 : Int)).length : Nat) : Int)),(7,vs 30 2 s_int (lcopy (List.replicate (wr r1.2).toNat (0 : Int)) a0)),(31,vs 30 2 s_int (lcopy (List.replicate (wr r1.2).toNat (0 : Int)) a0)),(32,po s_int a0)] [(30,⟨2,3,1,false,false,s_int.F (lcopy (List.replicate (wr r1.2).toNat (0 : Int)) a0)⟩)] ⟨VLf.refl _,(VLf.slen (by simp [TE.len,lcopy_length,rcopy_length,clr_length])),(VLf.slen (by simp [TE.len,lcopy_length,rcopy_length,clr_length])),VLf.refl _,trivial⟩ (HLe.refl _)) ?_
 refine Szh hT 1 [7,8] [(8,vi ((min a0.length (List.replicate (wr r1.2).toNat (0 : Int)).length : Nat) : Int))] [(30,⟨2,3,1,false,false,s_int.F (lcopy (List.replicate (wr r1.2).toNat (0 : Int)) a0)⟩)] 3 ?_
 refine WA_seq ?_
 refine WA_block ?_
 refine lK [7,8] [(30,30,1)] (fun k s=>∃ q,q ≤ k ∧ q ≤ n ∧ ∃ (l5 : List Int),∃ (i6 : Int),Repeat_int_L0 q a0 a1 r1 b2 l5 i6 = some r ∧ s = ⟨[(7,vs 30 1 s_int l5),(8,vi i6)],[(30,⟨1,3,1,false,false,s_int.F l5⟩)],2⟩) n ⟨n,Nat.le_refl _,Nat.le_refl _,lcopy (List.replicate (wr r1.2).toNat (0 : Int)) a0,((min a0.length (List.replicate (wr r1.2).toNat (0 : Int)).length : Nat) : Int),h,rfl⟩ (by rintro s ⟨q,hq,_,l5,i6,h,_⟩; obtain rfl:=Nat.le_zero.1 hq; rw [Repeat_int_L0] at h; cases h) ?_
 clear h
 rintro k1 s ⟨q1,hk1,hn1,l5,i6,h,rfl⟩
 rcases q1 with _ | q1
 ·rw [Repeat_int_L0] at h; cases h
 rw [Repeat_int_L0] at h
 refine WA_seq ?_
 refine Qgd hT 2 [7,8,34,35] [(34,vi i6),(35,vs 30 1 s_int l5)] ?_
 refine One' hT rfl (v_len_own s_int 30 1 true ⟨1,3,1,false,false,s_int.F l5⟩ l5) ?_
 refine Szd hT 1 [7,8,37] [(37,vb (decide (i6 < (ln l5))))] ?_
 refine Ci h (fun h=>?_) fun h=>?_
 ·refine WA_skip ?_
  refine WA_block ?_
  refine WA_drawW hT hM (by kernel_rfl) ?_
  refine Ds 3 [(40,vi i6),(39,vs 30 1 s_int l5),(38,vi i6)] [] [] ?_
  obtain ⟨g7,h⟩:=gsome h
  refine Dl rfl (ev_subR s_int 30 1 l5 i6 g7 (by kernel_rfl) (by kernel_rfl) (by kernel_rfl)) ?_
  refine Dt (.sl 30 1 i6.toNat (l5.length - i6.toNat) false) ?_
  refine Ds 2 [(43,vi i6),(42,vs 30 1 s_int l5)] [] [] ?_
  obtain ⟨g8,h⟩:=gsome h
  refine Dl rfl (ev_subL s_int 30 1 l5 i6 g8 (by kernel_rfl) (by kernel_rfl) (by kernel_rfl)) ?_
  refine Dt (.sl 30 1 0 i6.toNat true) ?_
  obtain ⟨g9,h⟩:=gsome h
  refine Dw rfl (ev_rcopy s_int 30 1 l5 i6 g9 (by kernel_rfl) (by kernel_rfl) (by kernel_rfl)) ?_
  refine Dh 2 [(8,vi (wr (i6 + ((min i6.toNat (l5.length - i6.toNat) : Nat) : Int)))),(46,vi (wr (i6 + ((min i6.toNat (l5.length - i6.toNat) : Nat) : Int))))] [(30,⟨1,3,1,false,false,s_int.F (rcopy l5 i6.toNat)⟩)] 2 [] [] ?_
  refine De ?_
  refine kW [7,8] ⟨[(7,vs 30 1 s_int l5),(8,vi (wr (i6 + ((min i6.toNat (l5.length - i6.toNat) : Nat) : Int))))],[(30,⟨1,3,1,false,false,s_int.F (rcopy l5 i6.toNat)⟩)],2⟩ ?_
  refine Wk_step (wL [(7,vs 30 1 s_int (rcopy l5 i6.toNat)),(8,vi (wr (i6 + ((min i6.toNat (l5.length - i6.toNat) : Nat) : Int))))] [(30,⟨1,3,1,false,false,s_int.F (rcopy l5 i6.toNat)⟩)] ⟨(VLf.slen (by simp [TE.len,lcopy_length,rcopy_length,clr_length])),VLf.refl _,trivial⟩ (HLe.refl _)) ?_
  exact wK [7,8] [(30,30,1)] ⟨_,by omega,by omega,rcopy l5 i6.toNat,wr (i6 + ((min i6.toNat (l5.length - i6.toNat) : Nat) : Int)),h,rfl⟩
 refine WA_exit ?_
 refine Qzd hT 2 [4] [(4,vs 30 1 s_int l5)] ?_
 refine aW [4] ⟨[(4,vs 30 1 s_int l5)],[(30,⟨1,3,1,false,false,s_int.F l5⟩)],2⟩ ?_
 refine WA_weak (wL [(4,vs 30 1 s_int l5)] [(30,rb 1 s_int l5)] ⟨VLf.refl _,trivial⟩ ⟨rfl,.inr (.inr rfl),trivial⟩) ?_
 obtain rfl:=Option.some.inj h
 exact rR [(30,100,1)] ⟨[(4,vs 100 1 s_int l5)],[(100,rb 1 s_int l5)],2⟩ ⟨by kernel_rfl,by kernel_rfl,rfl⟩
theorem rank_Order_1_ok {n : Nat} {a0 : Arr2_i64} {a1 : Int} {a2 : List Int} {r : Bool} (h : rank_Order_1 n a0 a1 a2 = some r) : PT Tryz.prog 26 [eArr2_i64 a0,.ref (e_i64 a1) 0,.ref (el_int a2) 0] (vb r):=by
 unfold rank_Order_1 at h
 refine PT_bodyA hT Tryz.func26 rfl (by kernel_rfl) fun bad w=>?_
 refine Qzh hT 2 [1,2,3] [(3,bx 3 0)] [(3,cb 0 38 2 (eArr2_i64 a0))] 1 ?_
 refine WA_seq ?_
 obtain ⟨J2,hJ2,h⟩:=jsome h
 refine WA_join (fun s=>∃ (b1 : Bool),J2 b1 = some r ∧ s = ⟨[(4,vb b1)],[],1⟩) ?_ ?_
 ·refine Rgd hT 5 [2,3,9] [(9,vb (a0.e1 == a1))] ?_
  cases hb : ((a0.e1 == a1) : Bool)
  ·replace h:=cfalse hb h
   refine Sgd hT 8 [4] [(4,vb false)] ?_
   exact oK [4] [] ⟨false,h,rfl⟩
  replace h:=ctrue hb h
  refine Sgd hT 3 [9,10,12] [(10,po s_int a2),(12,vi a0.e0)] ?_
  obtain ⟨x3,hx3,h⟩:=bsome h
  refine One' hT rfl (v_index s_int .opt a2 .i64 a0.e0 hx3) ?_
  refine Sg hT 4 [4] ⟨[(4,vb (decide (x3 < 0)))],[(3,cb 0 38 2 (eArr2_i64 a0))],1⟩ ?_
  exact oK [4] [] ⟨decide (x3 < 0),h,rfl⟩
 subst hJ2
 rintro s ⟨b1,h,rfl⟩
 obtain rfl:=Option.some.inj h
 exact rK [4] [] ⟨[(4,vb b1)],[],1⟩ ⟨by kernel_rfl,rfl⟩
theorem IndexFunc_2int_frank_Order_1_ok {n : Nat} {a0 : List Arr2_i64} {a1c0 : Int} {a1c1 : List Int} {r : Int} (h : IndexFunc_2int_frank_Order_1 n a0 a1c0 a1c1 = some r) : PT Tryz.prog 54 [po s_Arr2_i64 a0,.fn 26 [] [.ref (e_i64 a1c0) 0,.ref (el_int a1c1) 0]] (vi r):=by
 unfold IndexFunc_2int_frank_Order_1 at h
 refine PT_bodyA hT Tryz.func54 rfl (by kernel_rfl) fun bad w=>?_
 refine Qzd hT 1 [0,1] [] ?_
 refine WA_seq ?_
 refine Qgd hT 1 [0,1,6] [(6,po s_Arr2_i64 a0)] ?_
 refine One' hT rfl (v_len s_Arr2_i64 .opt a0) ?_
 refine Szd hT 1 [0,1,7,8] [(7,vi (ln a0)),(8,vi 0)] ?_
 refine WA_block ?_
 refine lK [0,1,7,8] [] (fun k s=>∃ q,q ≤ k ∧ q ≤ n ∧ ∃ (i1 : Int),IndexFunc_2int_frank_Order_1_L0 q a0 a1c0 a1c1 i1 = some r ∧ s = ⟨[(0,po s_Arr2_i64 a0),(1,.fn 26 [] [.ref (e_i64 a1c0) 0,.ref (el_int a1c1) 0]),(7,vi (ln a0)),(8,vi i1)],[],1⟩) n ⟨n,Nat.le_refl _,Nat.le_refl _,0,h,rfl⟩ (by rintro s ⟨q,hq,_,i1,h,_⟩; obtain rfl:=Nat.le_zero.1 hq; rw [IndexFunc_2int_frank_Order_1_L0] at h; cases h) ?_
 clear h
 rintro k1 s ⟨q1,hk1,hn1,i1,h,rfl⟩
 rcases q1 with _ | q1
 ·rw [IndexFunc_2int_frank_Order_1_L0] at h; cases h
 rw [IndexFunc_2int_frank_Order_1_L0] at h
 refine Qzd hT 1 [0,1,7,8,9] [(9,vb (decide (i1 < (ln a0))))] ?_
 refine WA_seq ?_
 refine Ci h (fun h=>?_) fun h=>?_
 ·refine WA_skip ?_
  refine WA_seq ?_
  refine WA_block ?_
  refine Qzd hT 2 [0,1,5,7,8] [(5,vi i1)] ?_
  refine Qgd hT 3 [0,1,5,7,8,11,12,13] [(11,.fn 26 [] [.ref (e_i64 a1c0) 0,.ref (el_int a1c1) 0]),(12,po s_Arr2_i64 a0),(13,vi i1)] ?_
  obtain ⟨x2,hx2,h⟩:=bsome h
  refine One' hT rfl (v_index s_Arr2_i64 .opt a0 .i64 i1 hx2) ?_
  refine Sgd hT 1 [0,1,5,7,8,11,15] [(15,eArr2_i64 x2)] ?_
  obtain ⟨r3,hr3,h⟩:=bsome h
  refine Pt' en26 (rank_Order_1_ok hr3) ?_
  refine Szd hT 0 [0,1,5,7,8,16] [(16,vb r3)] ?_
  refine Ci h (fun h=>?_) fun h=>?_
  ·refine Qz hT 2 [4] ⟨[(4,vi i1)],[],1⟩ ?_
   obtain rfl:=Option.some.inj h
   exact rK [4] [] ⟨[(4,vi i1)],[],1⟩ ⟨by kernel_rfl,rfl⟩
  refine WA_skip ?_
  refine Rgd hT 2 [0,1,7,8] [(8,vi (wr (i1 + 1)))] ?_
  exact oK [0,1,7,8] [] ⟨_,by omega,by omega,wr (i1 + 1),h,rfl⟩
 refine WA_exit ?_
 refine Qz hT 1 [4] ⟨[(4,vi (-1))],[],1⟩ ?_
 obtain rfl:=Option.some.inj h
 exact rK [4] [] ⟨[(4,vi (-1))],[],1⟩ ⟨by kernel_rfl,rfl⟩
theorem ContainsFunc_2int_frank_Order_1_ok {n : Nat} {a0 : List Arr2_i64} {a1c0 : Int} {a1c1 : List Int} {r : Bool} (h : ContainsFunc_2int_frank_Order_1 n a0 a1c0 a1c1 = some r) : PT Tryz.prog 25 [po s_Arr2_i64 a0,.fn 26 [] [.ref (e_i64 a1c0) 0,.ref (el_int a1c1) 0]] (vb r):=by
 unfold ContainsFunc_2int_frank_Order_1 at h
 refine PT_bodyA hT Tryz.func25 rfl (by kernel_rfl) fun bad w=>?_
 refine Qzd hT 1 [0,1] [] ?_
 refine Qg hT 2 [5,6] ⟨[(5,po s_Arr2_i64 a0),(6,.fn 26 [] [.ref (e_i64 a1c0) 0,.ref (el_int a1c1) 0])],[],0⟩ ?_
 obtain ⟨r1,hr1,h⟩:=bsome h
 refine Pt' en54 (IndexFunc_2int_frank_Order_1_ok hr1) ?_
 refine Sz hT 2 [4] ⟨[(4,vb (decide (r1 ≥ 0)))],[],0⟩ ?_
 obtain rfl:=Option.some.inj h
 exact rK [4] [] ⟨[(4,vb (decide (r1 ≥ 0)))],[],1⟩ ⟨by kernel_rfl,rfl⟩
theorem rank_Order_ok {n : Nat} {a0 : Prog} {a1 : List (List ByteArray)} {r : (List Int) × Int} (h : rank_Order n a0 a1 = some r) : PT Tryz.prog 9 [eProg a0,po s_Lstring a1] (.tup [.ps .fopt (s_int.F r.1),vi r.2]):=by
 unfold rank_Order at h
 refine PT_bodyA hT Tryz.func9 rfl (by kernel_rfl) fun bad w=>?_
 refine Qzh hT 3 [1,2] [(2,bx 2 0)] [(2,cb 0 26 2 (eProg a0))] 1 ?_
 refine Qgd hT 2 [1,12,13] [(12,eProg a0),(13,po s_Lstring a1)] ?_
 obtain ⟨r1,hr1,h⟩:=bsome h
 refine Pt' en7 (rank_Inside_ok hr1) ?_
 refine Szd hT 1 [1,6] [(6,.ps .fopt (s_Arr2_i64.F r1))] ?_
 refine Qg hT 2 [1,6,15,16] ⟨[(1,po s_Lstring a1),(6,.ps .fopt (s_Arr2_i64.F r1)),(15,vs 15 1 s_int [(-1)]),(16,po s_Lstring a1)],[(15,⟨1,3,1,false,false,s_int.F [(-1)]⟩),(2,cb 0 26 2 (eProg a0))],2⟩ ?_
 refine One' hT rfl (v_len s_Lstring .opt a1) ?_
 refine Sgd hT 0 [1,6,15,17] [(17,vi (ln a1))] ?_
 refine WO_weak (wF 15 1 ⟨1,3,1,false,false,s_int.F [(-1)]⟩ [(1,po s_Lstring a1),(6,.ps .fopt (s_Arr2_i64.F r1)),(15,po s_int [(-1)]),(17,vi (ln a1))] [(2,cb 0 26 2 (eProg a0))] ⟨rfl,.keep _,rfl,.keep _,rfl,.hit true,rfl,.keep _,trivial⟩ ⟨rfl,.inl rfl,trivial⟩) ?_
 obtain ⟨r2,hr2,h⟩:=bsome h
 refine Og [] [(100,rb 1 s_int r2)] [po s_int [(-1)],vi (ln a1)] [po s_int [(-1)],vi (ln a1)] [] [(100,18,2)] [(18,rb 2 s_int r2)] (vs 100 1 s_int r2) (vs 18 2 s_int r2) 3 en24 (Repeat_int_ok hr2) ?_
 refine Szh hT 2 [1,6,7] [(7,bx 7 3)] [(7,cb 3 33 1 (vs 18 2 s_int r2)),(18,rb 2 s_int r2),(2,cb 0 26 2 (eProg a0))] 4 ?_
 refine WA_seq ?_
 refine Qgd hT 1 [1,6,7,19] [(19,po s_Lstring a1)] ?_
 refine One' hT rfl (v_len s_Lstring .opt a1) ?_
 refine Szd hT 1 [1,6,7,20,21] [(20,vi (ln a1)),(21,vi 0)] ?_
 refine WA_block ?_
 refine lK [1,6,7,20,21] [(7,7,0),(18,18,0)] (fun k s=>∃ q,q ≤ k ∧ q ≤ n ∧ ∃ (l3 : List Int),∃ (i4 : Int),rank_Order_L0 q a0 a1 r1 r2 l3 i4 = some r ∧ s = ⟨[(1,po s_Lstring a1),(6,.ps .fopt (s_Arr2_i64.F r1)),(7,bx 7 0),(20,vi (ln a1)),(21,vi i4)],[(7,cb 0 33 1 (vs 18 0 s_int l3)),(18,rb 0 s_int l3)],1⟩) n ⟨n,Nat.le_refl _,Nat.le_refl _,r2,0,h,rfl⟩ (by rintro s ⟨q,hq,_,l3,i4,h,_⟩; obtain rfl:=Nat.le_zero.1 hq; rw [rank_Order_L0] at h; cases h) ?_
 clear h
 rintro k1 s ⟨q1,hk1,hn1,l3,i4,h,rfl⟩
 rcases q1 with _ | q1
 ·rw [rank_Order_L0] at h; cases h
 rw [rank_Order_L0] at h
 refine Qzd hT 1 [1,6,7,20,21,22] [(22,vb (decide (i4 < (ln a1))))] ?_
 refine WA_seq ?_
 refine Ci h (fun h=>?_) fun h=>?_
 ·refine WA_skip ?_
  refine WA_seq ?_
  refine WA_block ?_
  refine Qzd hT 2 [1,6,7,8,20,21] [(8,vi i4)] ?_
  refine Qzd hT 1 [1,6,7,8,9,20,21] [(9,vi (-1))] ?_
  refine WA_seq ?_
  refine Qgd hT 1 [1,6,7,8,9,20,21,24] [(24,po s_Lstring a1)] ?_
  refine One' hT rfl (v_len s_Lstring .opt a1) ?_
  refine Szd hT 1 [1,6,7,8,9,20,21,25,26] [(25,vi (ln a1)),(26,vi 0)] ?_
  refine WA_block ?_
  refine lK [1,6,7,8,9,20,21,25,26] [(7,7,0),(18,18,0)] (fun k s=>∃ q,q ≤ k ∧ q ≤ q1 ∧ ∃ (i5 : Int),∃ (i6 : Int),rank_Order_L1 q a0 a1 r1 r2 l3 i4 i5 i6 = some r ∧ s = ⟨[(1,po s_Lstring a1),(6,.ps .fopt (s_Arr2_i64.F r1)),(7,bx 7 0),(8,vi i4),(9,vi i5),(20,vi (ln a1)),(21,vi i4),(25,vi (ln a1)),(26,vi i6)],[(7,cb 0 33 1 (vs 18 0 s_int l3)),(18,rb 0 s_int l3)],1⟩) q1 ⟨q1,Nat.le_refl _,Nat.le_refl _,(-1),0,h,rfl⟩ (by rintro s ⟨q,hq,_,i5,i6,h,_⟩; obtain rfl:=Nat.le_zero.1 hq; rw [rank_Order_L1] at h; cases h) ?_
  clear h
  rintro k2 s ⟨q2,hk2,hn2,i5,i6,h,rfl⟩
  rcases q2 with _ | q2
  ·rw [rank_Order_L1] at h; cases h
  rw [rank_Order_L1] at h
  refine Qzd hT 1 [1,6,7,8,9,20,21,25,26,27] [(27,vb (decide (i6 < (ln a1))))] ?_
  refine WA_seq ?_
  refine Ci h (fun h=>?_) fun h=>?_
  ·refine WA_skip ?_
   refine WA_seq ?_
   obtain ⟨J8,hJ8,h⟩:=jsome h
   refine WA_join (fun s=>∃ (i7 : Int),J8 i7 = some r ∧ s = ⟨[(1,po s_Lstring a1),(6,.ps .fopt (s_Arr2_i64.F r1)),(7,bx 7 0),(8,vi i4),(9,vi i7),(20,vi (ln a1)),(21,vi i4),(25,vi (ln a1)),(26,vi i6)],[(7,cb 0 33 1 (vs 18 0 s_int l3)),(18,rb 0 s_int l3)],1⟩) ?_ ?_
   ·refine WA_block ?_
    refine Qzh hT 3 [1,6,7,8,9,10,20,21,25,26] [(10,bx 10 1)] [(10,cb 1 3 1 (vi i6)),(7,cb 0 33 1 (vs 18 0 s_int l3)),(18,rb 0 s_int l3)] 2 ?_
    refine Qgd hT 2 [1,6,7,8,9,10,20,21,25,26,29,30] [(29,.ps .fopt (s_Arr2_i64.F r1)),(30,.fn 26 [] [bx 10 1,bx 7 0])] ?_
    obtain ⟨r9,hr9,h⟩:=bsome h
    refine WO_pk ⟨[(1,po s_Lstring a1),(6,.ps .fopt (s_Arr2_i64.F r1)),(7,bx 7 0),(8,vi i4),(9,vi i5),(10,bx 10 1),(20,vi (ln a1)),(21,vi i4),(25,vi (ln a1)),(26,vi i6),(29,.ps .fopt (s_Arr2_i64.F r1)),(30,.fn 26 [] [bx 10 1,bx 7 0])],[(10,cb 1 3 1 (vi i6)),(7,cb 0 33 1 (po s_int l3))],2⟩ (wF 18 0 (rb 0 s_int l3) [(1,po s_Lstring a1),(6,.ps .fopt (s_Arr2_i64.F r1)),(7,bx 7 0),(8,vi i4),(9,vi i5),(10,bx 10 1),(20,vi (ln a1)),(21,vi i4),(25,vi (ln a1)),(26,vi i6),(29,.ps .fopt (s_Arr2_i64.F r1)),(30,.fn 26 [] [bx 10 1,bx 7 0])] [(10,cb 1 3 1 (vi i6)),(7,cb 0 33 1 (po s_int l3))] ⟨rfl,.keep _,rfl,.keep _,rfl,.keep _,rfl,.keep _,rfl,.keep _,rfl,.keep _,rfl,.keep _,rfl,.keep _,rfl,.keep _,rfl,.keep _,rfl,.keep _,rfl,.keep _,trivial⟩ ⟨rfl,.inl rfl,rfl,.inr ⟨rfl,rfl,.hit true,trivial⟩,trivial⟩) [10,7] [.ps .fopt (s_Arr2_i64.F r1),.fn 26 [] [bx 10 1,bx 7 0]] [.ps .fopt (s_Arr2_i64.F r1),.fn 26 [] [.ref (e_i64 i6) 0,.ref (el_int l3) 0]] (vb r9) en25 (PT_args ((ContainsFunc_2int_frank_Order_1_ok hr9)) ⟨VLe.fopt_opt,VLe.refl _,trivial⟩) ?_
    refine Szd hT 1 [1,6,7,8,9,10,11,20,21,25,26] [(11,vb r9)] ?_
    refine WA_seq ?_
    obtain ⟨J11,hJ11,h⟩:=jsome h
    refine WA_join (fun s=>∃ (b10 : Bool),J11 b10 = some r ∧ s = ⟨[(1,po s_Lstring a1),(6,.ps .fopt (s_Arr2_i64.F r1)),(7,bx 7 0),(8,vi i4),(9,vi i5),(10,bx 10 0),(20,vi (ln a1)),(21,vi i4),(25,vi (ln a1)),(26,vi i6),(44,vb b10)],[(7,cb 0 33 1 (vs 18 0 s_int l3)),(10,cb 0 3 1 (vi i6)),(18,rb 0 s_int l3)],1⟩) ?_ ?_
    ·refine Rgd hT 2 [1,6,7,8,9,10,11,20,21,25,26,32,33] [(32,vs 18 0 s_int l3),(33,vi i6)] ?_
     obtain ⟨x12,hx12,h⟩:=bsome h
     refine One' hT rfl (v_index_own s_int 18 0 true (rb 0 s_int l3) l3 .i64 i6 hx12) ?_
     refine Sgd hT 0 [1,6,7,8,9,10,11,20,21,25,26,34] [(34,.box 18 0 i6.toNat 0)] ?_
     refine One' hT rfl (v_load_row s_int 18 0 (rb 0 s_int l3) l3 i6.toNat 0 x12 (vi x12) (idx_some hx12).2) ?_
     refine Sgd hT 2 [1,6,7,8,9,10,11,20,21,25,26,37] [(37,vb (decide (x12 < 0)))] ?_
     cases hb : (decide (x12 < 0) : Bool)
     ·replace h:=cfalse hb h
      refine Sgd hT 7 [1,6,7,8,9,10,20,21,25,26,44] [(44,vb false)] ?_
      exact oK [1,6,7,8,9,10,20,21,25,26,44] [(7,7,0),(10,10,0),(18,18,0)] ⟨false,h,rfl⟩
     replace h:=ctrue hb h
     refine Sg hT 4 [1,6,7,8,9,10,20,21,25,26,41] ⟨[(1,po s_Lstring a1),(6,.ps .fopt (s_Arr2_i64.F r1)),(7,bx 7 0),(8,vi i4),(9,vi i5),(10,bx 10 1),(20,vi (ln a1)),(21,vi i4),(25,vi (ln a1)),(26,vi i6),(41,vb (!r9))],[(10,cb 1 3 1 (vi i6)),(7,cb 0 33 1 (vs 18 0 s_int l3)),(18,rb 0 s_int l3)],2⟩ ?_
     cases hb : (!r9 : Bool)
     ·replace h:=cfalse hb h
      refine Sgd hT 3 [1,6,7,8,9,10,20,21,25,26,44] [(44,vb false)] ?_
      exact oK [1,6,7,8,9,10,20,21,25,26,44] [(7,7,0),(10,10,0),(18,18,0)] ⟨false,h,rfl⟩
     replace h:=ctrue hb h
     refine Sgd hT 3 [1,6,7,8,9,10,20,21,25,26,44] [(44,vb (decide (i5 < 0)))] ?_
     exact oK [1,6,7,8,9,10,20,21,25,26,44] [(7,7,0),(10,10,0),(18,18,0)] ⟨decide (i5 < 0),h,rfl⟩
    subst hJ11
    rintro s ⟨b10,h,rfl⟩
    skip
    refine Ci h (fun h=>?_) fun h=>?_
    ·refine Rgd hT 2 [1,6,7,8,9,20,21,25,26] [(9,vi i6)] ?_
     exact oK [1,6,7,8,9,20,21,25,26] [(7,7,0),(18,18,0)] ⟨i6,h,rfl⟩
    exact sK [1,6,7,8,9,20,21,25,26] [(7,7,0),(18,18,0)] ⟨i5,h,rfl⟩
   subst hJ8
   rintro s ⟨i7,h,rfl⟩
   skip
   refine Rgd hT 2 [1,6,7,8,9,20,21,25,26] [(26,vi (wr (i6 + 1)))] ?_
   exact oK [1,6,7,8,9,20,21,25,26] [(7,7,0),(18,18,0)] ⟨_,by omega,by omega,i7,wr (i6 + 1),h,rfl⟩
  refine WA_exit ?_
  refine WA_seq ?_
  refine Qzd hT 2 [1,6,7,8,9,20,21,48] [(48,vb (decide (i5 < 0)))] ?_
  refine Ci h (fun h=>?_) fun h=>?_
  ·refine Qzd hT 2 [4,5] [(4,vn),(5,vi 8)] ?_
   refine aW [4,5] ⟨[(4,vn),(5,vi 8)],[(7,cb 0 33 1 (vs 18 0 s_int l3)),(18,rb 0 s_int l3)],1⟩ ?_
   refine WA_weak (wL [(4,.ps .fopt (s_int.F [])),(5,vi 8)] [(7,cb 0 33 1 (vs 18 0 s_int l3)),(18,rb 0 s_int l3)] ⟨(VLe.f VLe.nil_fopt rfl),VLf.refl _,trivial⟩ ⟨rfl,.inl rfl,rfl,.inl rfl,trivial⟩) ?_
   obtain rfl:=Option.some.inj h
   exact rR [] ⟨[(4,.ps .fopt (s_int.F [])),(5,vi 8)],[],1⟩ ⟨by kernel_rfl,rfl⟩
  refine WA_skip ?_
  refine Rgd hT 3 [1,6,7,20,21,49,50,51] [(49,vs 18 0 s_int l3),(50,vi i5),(51,vi i4)] ?_
  obtain ⟨x13,hx13,h⟩:=bsome h
  refine One' hT rfl (v_index_own s_int 18 0 true (rb 0 s_int l3) l3 .i64 i5 hx13) ?_
  refine Sgd hT 0 [1,6,7,20,21,51,52] [(52,.box 18 0 i5.toNat 0)] ?_
  refine One' hT rfl (v_storeRow s_int 18 0 (rb 0 s_int l3) l3 i5.toNat 0 x13 i4 (idx_some hx13).2) ?_
  refine oW [1,6,7,20,21,51] ⟨[(1,po s_Lstring a1),(6,.ps .fopt (s_Arr2_i64.F r1)),(7,bx 7 0),(20,vi (ln a1)),(21,vi i4),(51,vi i4)],[(18,rb 0 s_int (l3.set i5.toNat i4)),(7,cb 0 33 1 (vs 18 0 s_int l3))],1⟩ ?_
  refine WO_weak (wL [(1,po s_Lstring a1),(6,.ps .fopt (s_Arr2_i64.F r1)),(7,bx 7 0),(20,vi (ln a1)),(21,vi i4),(51,vi i4)] [(18,rb 0 s_int (l3.set i5.toNat i4)),(7,cb 0 33 1 (vs 18 0 s_int (l3.set i5.toNat i4)))] ⟨VLf.refl _,VLf.refl _,VLf.refl _,VLf.refl _,VLf.refl _,VLf.refl _,trivial⟩ ⟨rfl,.inl rfl,rfl,.inr (.inl ⟨rfl,rfl,CLe.one (VLf.slen (by simp [TE.len,lcopy_length,rcopy_length,clr_length])) rfl rfl,trivial⟩),trivial⟩) ?_
  refine Sz hT 0 [1,6,7,20,21] ⟨[(1,po s_Lstring a1),(6,.ps .fopt (s_Arr2_i64.F r1)),(7,bx 7 0),(20,vi (ln a1)),(21,vi i4)],[(18,rb 0 s_int (l3.set i5.toNat i4)),(7,cb 0 33 1 (vs 18 0 s_int (l3.set i5.toNat i4)))],1⟩ ?_
  refine Rgd hT 2 [1,6,7,20,21] [(21,vi (wr (i4 + 1)))] ?_
  exact oK [1,6,7,20,21] [(7,7,0),(18,18,0)] ⟨_,by omega,by omega,l3.set i5.toNat i4,wr (i4 + 1),h,rfl⟩
 refine WA_exit ?_
 refine Qgd hT 1 [54] [(54,vs 18 0 s_int l3)] ?_
 refine WO_weak (wF 18 0 (rb 0 s_int l3) [(54,po s_int l3)] [(7,cb 0 33 1 (po s_int l3))] ⟨rfl,.hit true,trivial⟩ ⟨rfl,.inr ⟨rfl,rfl,.hit true,trivial⟩,trivial⟩) ?_
 obtain ⟨r14,hr14,h⟩:=bsome h
 refine Pt' en27 (Clip_int_ok hr14) ?_
 refine Szd hT 2 [4,5] [(4,.ps .fopt (s_int.F r14)),(5,vi 0)] ?_
 obtain rfl:=Option.some.inj h
 exact rK [4,5] [] ⟨[(4,.ps .fopt (s_int.F r14)),(5,vi 0)],[],1⟩ ⟨by kernel_rfl,rfl⟩
theorem ref22_Order_ok {n : Nat} {a0 : Prog} {a1 : List (List ByteArray)} {r : (List Int) × Int} (h : ref22_Order n a0 a1 = some r) : GO Tryz.prog 10 [] [eProg a0,po s_Lstring a1] (.tup [vs 100 1 s_int r.1,vi r.2]) [(100,rb 1 s_int r.1)]:=by
 unfold ref22_Order at h
 refine GO_bodyA hT Tryz.func10 rfl [] (by kernel_rfl) fun bad w m=>?_
 refine Qzh hT 3 [1,2] [(2,bx 2 1)] [(2,cb 1 26 2 (eProg a0))] 2 ?_
 refine Qgd hT 2 [1,14,15] [(14,eProg a0),(15,po s_Lstring a1)] ?_
 obtain ⟨r1,hr1,h⟩:=bsome h
 refine Og [] [(100,rb 1 s_Arr2_i64 r1)] [eProg a0,po s_Lstring a1] [eProg a0,po s_Lstring a1] [] [(100,16,2)] [(16,rb 2 s_Arr2_i64 r1)] (vs 100 1 s_Arr2_i64 r1) (vs 16 2 s_Arr2_i64 r1) 3 en8 (ref22_Inside_ok hr1) ?_
 refine Szh hT 1 [1,6] [(6,vs 16 2 s_Arr2_i64 r1)] [(16,rb 2 s_Arr2_i64 r1),(2,cb 1 26 2 (eProg a0))] 3 ?_
 refine Qgd hT 1 [1,6,17] [(17,po s_Lstring a1)] ?_
 refine One' hT rfl (v_len s_Lstring .opt a1) ?_
 refine Sgd hT 0 [1,6,18] [(18,vi (ln a1))] ?_
 obtain ⟨g2,h⟩:=gsome h
 refine One' hT rfl (ev_make s_int (ln a1) 0 g2 (by kernel_rfl) (by kernel_rfl) rfl) ?_
 refine Szh hT 1 [1,6,7] [(7,vs 19 3 s_int (List.replicate (ln a1).toNat (0 : Int)))] [(19,⟨3,3,1,false,false,s_int.F (List.replicate (ln a1).toNat (0 : Int))⟩),(16,rb 2 s_Arr2_i64 r1),(2,cb 1 26 2 (eProg a0))] 4 ?_
 refine WA_seq ?_
 refine Qzd hT 1 [1,6,7,8] [(8,vi 0)] ?_
 refine WA_block ?_
 refine lK [1,6,7,8] [(16,16,1),(19,19,1)] (fun k s=>∃ q,q ≤ k ∧ q ≤ n ∧ ∃ (l3 : List Int),∃ (i4 : Int),ref22_Order_L0 q a0 a1 r1 l3 i4 = some r ∧ s = ⟨[(1,po s_Lstring a1),(6,vs 16 1 s_Arr2_i64 r1),(7,vs 19 1 s_int l3),(8,vi i4)],[(16,rb 1 s_Arr2_i64 r1),(19,⟨1,3,1,false,false,s_int.F l3⟩)],2⟩) n ⟨n,Nat.le_refl _,Nat.le_refl _,List.replicate (ln a1).toNat (0 : Int),0,h,rfl⟩ (by rintro s ⟨q,hq,_,l3,i4,h,_⟩; obtain rfl:=Nat.le_zero.1 hq; rw [ref22_Order_L0] at h; cases h) ?_
 clear h
 rintro k1 s ⟨q1,hk1,hn1,l3,i4,h,rfl⟩
 rcases q1 with _ | q1
 ·rw [ref22_Order_L0] at h; cases h
 rw [ref22_Order_L0] at h
 refine WA_seq ?_
 refine Qg hT 2 [1,6,7,8,20,21] ⟨[(1,po s_Lstring a1),(6,vs 16 1 s_Arr2_i64 r1),(7,vs 19 1 s_int l3),(8,vi i4),(20,vi i4),(21,vs 19 1 s_int l3)],[(16,rb 1 s_Arr2_i64 r1),(19,⟨1,3,1,false,false,s_int.F l3⟩)],2⟩ ?_
 refine One' hT rfl (v_len_own s_int 19 1 true ⟨1,3,1,false,false,s_int.F l3⟩ l3) ?_
 refine Szd hT 1 [1,6,7,8,23] [(23,vb (decide (i4 < (ln l3))))] ?_
 refine Ci h (fun h=>?_) fun h=>?_
 ·refine WA_skip ?_
  refine WA_seq ?_
  refine WA_block ?_
  refine Rgd hT 2 [1,6,7,8,26,27] [(26,vs 19 1 s_int l3),(27,vi i4)] ?_
  obtain ⟨x5,hx5,h⟩:=bsome h
  refine One' hT rfl (v_index_own s_int 19 1 true ⟨1,3,1,false,false,s_int.F l3⟩ l3 .i64 i4 hx5) ?_
  refine Sgd hT 0 [1,6,7,8,28] [(28,.box 19 1 i4.toNat 0)] ?_
  refine One' hT rfl (v_storeRow s_int 19 1 ⟨1,3,1,false,false,s_int.F l3⟩ l3 i4.toNat 0 x5 (-1) (idx_some hx5).2) ?_
  refine oW [1,6,7,8] ⟨[(1,po s_Lstring a1),(6,vs 16 1 s_Arr2_i64 r1),(7,vs 19 1 s_int l3),(8,vi i4)],[(19,⟨1,3,1,false,false,s_int.F (l3.set i4.toNat (-1))⟩),(16,rb 1 s_Arr2_i64 r1)],2⟩ ?_
  refine WO_weak (wL [(1,po s_Lstring a1),(6,vs 16 1 s_Arr2_i64 r1),(7,vs 19 1 s_int (l3.set i4.toNat (-1))),(8,vi i4)] [(19,⟨1,3,1,false,false,s_int.F (l3.set i4.toNat (-1))⟩),(16,rb 1 s_Arr2_i64 r1)] ⟨VLf.refl _,VLf.refl _,(VLf.slen (by simp [TE.len,lcopy_length,rcopy_length,clr_length])),VLf.refl _,trivial⟩ (HLe.refl _)) ?_
  refine Ze ?_
  refine Rgd hT 3 [1,6,7,8] [(8,vi (wr (i4 + 1)))] ?_
  exact oK [1,6,7,8] [(16,16,1),(19,19,1)] ⟨_,by omega,by omega,l3.set i4.toNat (-1),wr (i4 + 1),h,rfl⟩
 refine WA_exit ?_
 refine WA_seq ?_
 refine Qzd hT 1 [1,6,7,9] [(9,vi 0)] ?_
 refine WA_block ?_
 refine lK [1,6,7,9] [(16,16,1),(19,19,1)] (fun k s=>∃ q,q ≤ k ∧ q ≤ q1 ∧ ∃ (l6 : List Int),∃ (i7 : Int),ref22_Order_L1 q a0 a1 r1 l3 i4 l6 i7 = some r ∧ s = ⟨[(1,po s_Lstring a1),(6,vs 16 1 s_Arr2_i64 r1),(7,vs 19 1 s_int l6),(9,vi i7)],[(16,rb 1 s_Arr2_i64 r1),(19,⟨1,3,1,false,false,s_int.F l6⟩)],2⟩) q1 ⟨q1,Nat.le_refl _,Nat.le_refl _,l3,0,h,rfl⟩ (by rintro s ⟨q,hq,_,l6,i7,h,_⟩; obtain rfl:=Nat.le_zero.1 hq; rw [ref22_Order_L1] at h; cases h) ?_
 clear h
 rintro k2 s ⟨q2,hk2,hn2,l6,i7,h,rfl⟩
 rcases q2 with _ | q2
 ·rw [ref22_Order_L1] at h; cases h
 rw [ref22_Order_L1] at h
 refine WA_seq ?_
 refine Qgd hT 2 [1,6,7,9,29,30] [(29,vi i7),(30,po s_Lstring a1)] ?_
 refine One' hT rfl (v_len s_Lstring .opt a1) ?_
 refine Sz hT 1 [1,6,7,9,32] ⟨[(1,po s_Lstring a1),(6,vs 16 1 s_Arr2_i64 r1),(7,vs 19 1 s_int l6),(9,vi i7),(32,vb (decide (i7 < (ln a1))))],[(16,rb 1 s_Arr2_i64 r1),(19,⟨1,3,1,false,false,s_int.F l6⟩)],2⟩ ?_
 refine Ci h (fun h=>?_) fun h=>?_
 ·refine WA_skip ?_
  refine WA_seq ?_
  refine WA_block ?_
  refine Qzd hT 1 [1,6,7,9,10] [(10,vi (-1))] ?_
  refine WA_seq ?_
  refine Qzd hT 1 [1,6,7,9,10,11] [(11,vi 0)] ?_
  refine WA_block ?_
  refine lK [1,6,7,9,10,11] [(16,16,1),(19,19,1)] (fun k s=>∃ q,q ≤ k ∧ q ≤ q2 ∧ ∃ (i8 : Int),∃ (i9 : Int),ref22_Order_L2 q a0 a1 r1 l3 i4 l6 i7 i8 i9 = some r ∧ s = ⟨[(1,po s_Lstring a1),(6,vs 16 1 s_Arr2_i64 r1),(7,vs 19 1 s_int l6),(9,vi i7),(10,vi i8),(11,vi i9)],[(16,rb 1 s_Arr2_i64 r1),(19,⟨1,3,1,false,false,s_int.F l6⟩)],2⟩) q2 ⟨q2,Nat.le_refl _,Nat.le_refl _,(-1),0,h,rfl⟩ (by rintro s ⟨q,hq,_,i8,i9,h,_⟩; obtain rfl:=Nat.le_zero.1 hq; rw [ref22_Order_L2] at h; cases h) ?_
  clear h
  rintro k3 s ⟨q3,hk3,hn3,i8,i9,h,rfl⟩
  rcases q3 with _ | q3
  ·rw [ref22_Order_L2] at h; cases h
  rw [ref22_Order_L2] at h
  refine WA_seq ?_
  refine WA_seq ?_
  obtain ⟨J11,hJ11,h⟩:=jsome h
  refine WA_join (fun s=>∃ (b10 : Bool),J11 b10 = some r ∧ s = ⟨[(1,po s_Lstring a1),(6,vs 16 1 s_Arr2_i64 r1),(7,vs 19 1 s_int l6),(9,vi i7),(10,vi i8),(11,vi i9),(42,vb b10)],[(16,rb 1 s_Arr2_i64 r1),(19,⟨1,3,1,false,false,s_int.F l6⟩)],2⟩) ?_ ?_
  ·refine Rgd hT 2 [1,6,7,9,10,11,35,36] [(35,vi i9),(36,po s_Lstring a1)] ?_
   refine One' hT rfl (v_len s_Lstring .opt a1) ?_
   refine Sgd hT 2 [1,6,7,9,10,11,39] [(39,vb (decide (i9 < (ln a1))))] ?_
   cases hb : (decide (i9 < (ln a1)) : Bool)
   ·replace h:=cfalse hb h
    refine Sgd hT 3 [1,6,7,9,10,11,42] [(42,vb false)] ?_
    exact oK [1,6,7,9,10,11,42] [(16,16,1),(19,19,1)] ⟨false,h,rfl⟩
   replace h:=ctrue hb h
   refine Sgd hT 3 [1,6,7,9,10,11,42] [(42,vb (decide (i8 < 0)))] ?_
   exact oK [1,6,7,9,10,11,42] [(16,16,1),(19,19,1)] ⟨decide (i8 < 0),h,rfl⟩
  subst hJ11
  rintro s ⟨b10,h,rfl⟩
  skip
  refine Ci h (fun h=>?_) fun h=>?_
  ·refine WA_skip ?_
   refine WA_seq ?_
   obtain ⟨J13,hJ13,h⟩:=jsome h
   refine WA_join (fun s=>∃ (i12 : Int),J13 i12 = some r ∧ s = ⟨[(1,po s_Lstring a1),(6,vs 16 1 s_Arr2_i64 r1),(7,vs 19 1 s_int l6),(9,vi i7),(10,vi i12),(11,vi i9)],[(16,rb 1 s_Arr2_i64 r1),(19,⟨1,3,1,false,false,s_int.F l6⟩)],2⟩) ?_ ?_
   ·refine WA_block ?_
    refine Qgd hT 2 [1,6,7,9,10,11,45,46] [(45,vs 19 1 s_int l6),(46,vi i9)] ?_
    obtain ⟨x14,hx14,h⟩:=bsome h
    refine One' hT rfl (v_index_own s_int 19 1 true ⟨1,3,1,false,false,s_int.F l6⟩ l6 .i64 i9 hx14) ?_
    refine Sg hT 0 [1,6,7,9,10,11,47] ⟨[(1,po s_Lstring a1),(6,vs 16 1 s_Arr2_i64 r1),(7,vs 19 1 s_int l6),(9,vi i7),(10,vi i8),(11,vi i9),(47,.box 19 1 i9.toNat 0)],[(16,rb 1 s_Arr2_i64 r1),(19,⟨1,3,1,false,false,s_int.F l6⟩)],2⟩ ?_
    refine One' hT rfl (v_load_row s_int 19 1 ⟨1,3,1,false,false,s_int.F l6⟩ l6 i9.toNat 0 x14 (vi x14) (idx_some hx14).2) ?_
    refine Szd hT 2 [1,6,7,9,10,11,12] [(12,vb (decide (x14 < 0)))] ?_
    refine WA_seq ?_
    refine Qzd hT 1 [1,6,7,9,10,11,12,13] [(13,vi 0)] ?_
    refine WA_block ?_
    refine lK [1,6,7,9,10,11,12,13] [(16,16,1),(19,19,1)] (fun k s=>∃ q,q ≤ k ∧ q ≤ q3 ∧ ∃ (b15 : Bool),∃ (i16 : Int),ref22_Order_L3 q a0 a1 r1 l3 i4 l6 i7 i8 i9 b10 J13 x14 b15 i16 = some r ∧ s = ⟨[(1,po s_Lstring a1),(6,vs 16 1 s_Arr2_i64 r1),(7,vs 19 1 s_int l6),(9,vi i7),(10,vi i8),(11,vi i9),(12,vb b15),(13,vi i16)],[(16,rb 1 s_Arr2_i64 r1),(19,⟨1,3,1,false,false,s_int.F l6⟩)],2⟩) q3 ⟨q3,Nat.le_refl _,Nat.le_refl _,decide (x14 < 0),0,h,rfl⟩ (by rintro s ⟨q,hq,_,b15,i16,h,_⟩; obtain rfl:=Nat.le_zero.1 hq; rw [ref22_Order_L3] at h; cases h) ?_
    clear h
    rintro k4 s ⟨q4,hk4,hn4,b15,i16,h,rfl⟩
    rcases q4 with _ | q4
    ·rw [ref22_Order_L3] at h; cases h
    rw [ref22_Order_L3] at h
    refine WA_seq ?_
    refine Qgd hT 2 [1,6,7,9,10,11,12,13,50,51] [(50,vi i16),(51,vs 16 1 s_Arr2_i64 r1)] ?_
    refine One' hT rfl (v_len_own s_Arr2_i64 16 1 true (rb 1 s_Arr2_i64 r1) r1) ?_
    refine Szd hT 1 [1,6,7,9,10,11,12,13,53] [(53,vb (decide (i16 < (ln r1))))] ?_
    refine Ci h (fun h=>?_) fun h=>?_
    ·refine WA_skip ?_
     refine WA_seq ?_
     obtain ⟨J18,hJ18,h⟩:=jsome h
     refine WA_join (fun s=>∃ (b17 : Bool),J18 b17 = some r ∧ s = ⟨[(1,po s_Lstring a1),(6,vs 16 1 s_Arr2_i64 r1),(7,vs 19 1 s_int l6),(9,vi i7),(10,vi i8),(11,vi i9),(12,vb b17),(13,vi i16)],[(16,rb 1 s_Arr2_i64 r1),(19,⟨1,3,1,false,false,s_int.F l6⟩)],2⟩) ?_ ?_
     ·refine WA_block ?_
      refine WA_seq ?_
      obtain ⟨J20,hJ20,h⟩:=jsome h
      refine WA_join (fun s=>∃ (b19 : Bool),J20 b19 = some r ∧ s = ⟨[(1,po s_Lstring a1),(6,vs 16 1 s_Arr2_i64 r1),(7,vs 19 1 s_int l6),(9,vi i7),(10,vi i8),(11,vi i9),(12,vb b15),(13,vi i16),(73,vb b19)],[(16,rb 1 s_Arr2_i64 r1),(19,⟨1,3,1,false,false,s_int.F l6⟩)],2⟩) ?_ ?_
      ·refine Rgd hT 2 [1,6,7,9,10,11,12,13,56,57] [(56,vs 16 1 s_Arr2_i64 r1),(57,vi i16)] ?_
       obtain ⟨x21,hx21,h⟩:=bsome h
       refine One' hT rfl (v_index_own s_Arr2_i64 16 1 true (rb 1 s_Arr2_i64 r1) r1 .i64 i16 hx21) ?_
       refine Sgd hT 1 [1,6,7,9,10,11,12,13,59] [(59,.box 16 1 i16.toNat 1)] ?_
       refine One' hT rfl (v_load_row s_Arr2_i64 16 1 (rb 1 s_Arr2_i64 r1) r1 i16.toNat 1 x21 (vi x21.e1) (idx_some hx21).2) ?_
       refine Sg hT 3 [1,6,7,9,10,11,12,13,63] ⟨[(1,po s_Lstring a1),(6,vs 16 1 s_Arr2_i64 r1),(7,vs 19 1 s_int l6),(9,vi i7),(10,vi i8),(11,vi i9),(12,vb b15),(13,vi i16),(63,vb (x21.e1 == i9))],[(16,rb 1 s_Arr2_i64 r1),(19,⟨1,3,1,false,false,s_int.F l6⟩)],2⟩ ?_
       cases hb : ((x21.e1 == i9) : Bool)
       ·replace h:=cfalse hb h
        refine Sgd hT 10 [1,6,7,9,10,11,12,13,73] [(73,vb false)] ?_
        exact oK [1,6,7,9,10,11,12,13,73] [(16,16,1),(19,19,1)] ⟨false,h,rfl⟩
       replace h:=ctrue hb h
       refine Sgd hT 3 [1,6,7,9,10,11,12,13,63,64,65,66] [(64,vs 19 1 s_int l6),(65,vs 16 1 s_Arr2_i64 r1),(66,vi i16)] ?_
       obtain ⟨x22,hx22,h⟩:=bsome h
       refine One' hT rfl (v_index_own s_Arr2_i64 16 1 true (rb 1 s_Arr2_i64 r1) r1 .i64 i16 hx22) ?_
       refine Sgd hT 1 [1,6,7,9,10,11,12,13,63,64,68] [(68,.box 16 1 i16.toNat 0)] ?_
       refine One' hT rfl (v_load_row s_Arr2_i64 16 1 (rb 1 s_Arr2_i64 r1) r1 i16.toNat 0 x22 (vi x22.e0) (idx_some hx22).2) ?_
       refine Sgd hT 0 [1,6,7,9,10,11,12,13,63,64,69] [(69,vi x22.e0)] ?_
       obtain ⟨x23,hx23,h⟩:=bsome h
       refine One' hT rfl (v_index_own s_int 19 1 true ⟨1,3,1,false,false,s_int.F l6⟩ l6 .i64 x22.e0 hx23) ?_
       refine Sgd hT 0 [1,6,7,9,10,11,12,13,63,70] [(70,.box 19 1 x22.e0.toNat 0)] ?_
       refine One' hT rfl (v_load_row s_int 19 1 ⟨1,3,1,false,false,s_int.F l6⟩ l6 x22.e0.toNat 0 x23 (vi x23) (idx_some hx23).2) ?_
       refine Sgd hT 2 [1,6,7,9,10,11,12,13,73] [(73,vb (decide (x23 < 0)))] ?_
       exact oK [1,6,7,9,10,11,12,13,73] [(16,16,1),(19,19,1)] ⟨decide (x23 < 0),h,rfl⟩
      subst hJ20
      rintro s ⟨b19,h,rfl⟩
      skip
      refine Ci h (fun h=>?_) fun h=>?_
      ·refine Rgd hT 1 [1,6,7,9,10,11,12,13] [(12,vb false)] ?_
       exact oK [1,6,7,9,10,11,12,13] [(16,16,1),(19,19,1)] ⟨false,h,rfl⟩
      exact sK [1,6,7,9,10,11,12,13] [(16,16,1),(19,19,1)] ⟨b15,h,rfl⟩
     subst hJ18
     rintro s ⟨b17,h,rfl⟩
     skip
     refine Rgd hT 3 [1,6,7,9,10,11,12,13] [(13,vi (wr (i16 + 1)))] ?_
     exact oK [1,6,7,9,10,11,12,13] [(16,16,1),(19,19,1)] ⟨_,by omega,by omega,b17,wr (i16 + 1),h,rfl⟩
    refine WA_exit ?_
    refine Qz hT 1 [1,6,7,9,10,11,74] ⟨[(1,po s_Lstring a1),(6,vs 16 1 s_Arr2_i64 r1),(7,vs 19 1 s_int l6),(9,vi i7),(10,vi i8),(11,vi i9),(74,vb b15)],[(16,rb 1 s_Arr2_i64 r1),(19,⟨1,3,1,false,false,s_int.F l6⟩)],2⟩ ?_
    refine Ci h (fun h=>?_) fun h=>?_
    ·refine Rgd hT 2 [1,6,7,9,10,11] [(10,vi i9)] ?_
     exact oK [1,6,7,9,10,11] [(16,16,1),(19,19,1)] ⟨i9,h,rfl⟩
    exact sK [1,6,7,9,10,11] [(16,16,1),(19,19,1)] ⟨i8,h,rfl⟩
   subst hJ13
   rintro s ⟨i12,h,rfl⟩
   skip
   refine Rgd hT 3 [1,6,7,9,10,11] [(11,vi (wr (i9 + 1)))] ?_
   exact oK [1,6,7,9,10,11] [(16,16,1),(19,19,1)] ⟨_,by omega,by omega,i12,wr (i9 + 1),h,rfl⟩
  refine WA_exit ?_
  refine WA_seq ?_
  refine Qzd hT 2 [1,6,7,9,10,77] [(77,vb (decide (i8 < 0)))] ?_
  refine Ci h (fun h=>?_) fun h=>?_
  ·refine Qzd hT 2 [4,5] [(4,vn),(5,vi 8)] ?_
   refine aW [4,5] ⟨[(4,vn),(5,vi 8)],[(16,rb 1 s_Arr2_i64 r1),(19,⟨1,3,1,false,false,s_int.F l6⟩)],2⟩ ?_
   refine WA_weak (wO 4 5000 3 1) ?_
   obtain rfl:=Option.some.inj h
   exact rK [4,5] [(5000,100,1)] ⟨[(4,vs 100 1 s_int ([] : List Int)),(5,vi 8)],[(100,rb 1 s_int ([] : List Int))],2⟩ ⟨by kernel_rfl,by kernel_rfl,rfl⟩
  refine WA_skip ?_
  refine Rgd hT 3 [1,6,7,9,78,79,80] [(78,vs 19 1 s_int l6),(79,vi i8),(80,vi i7)] ?_
  obtain ⟨x24,hx24,h⟩:=bsome h
  refine One' hT rfl (v_index_own s_int 19 1 true ⟨1,3,1,false,false,s_int.F l6⟩ l6 .i64 i8 hx24) ?_
  refine Sgd hT 0 [1,6,7,9,80,81] [(81,.box 19 1 i8.toNat 0)] ?_
  refine One' hT rfl (v_storeRow s_int 19 1 ⟨1,3,1,false,false,s_int.F l6⟩ l6 i8.toNat 0 x24 i7 (idx_some hx24).2) ?_
  refine oW [1,6,7,9,80] ⟨[(1,po s_Lstring a1),(6,vs 16 1 s_Arr2_i64 r1),(7,vs 19 1 s_int l6),(9,vi i7),(80,vi i7)],[(19,⟨1,3,1,false,false,s_int.F (l6.set i8.toNat i7)⟩),(16,rb 1 s_Arr2_i64 r1)],2⟩ ?_
  refine WO_weak (wL [(1,po s_Lstring a1),(6,vs 16 1 s_Arr2_i64 r1),(7,vs 19 1 s_int (l6.set i8.toNat i7)),(9,vi i7),(80,vi i7)] [(19,⟨1,3,1,false,false,s_int.F (l6.set i8.toNat i7)⟩),(16,rb 1 s_Arr2_i64 r1)] ⟨VLf.refl _,VLf.refl _,(VLf.slen (by simp [TE.len,lcopy_length,rcopy_length,clr_length])),VLf.refl _,VLf.refl _,trivial⟩ (HLe.refl _)) ?_
  refine Szh hT 0 [1,6,7,9] [] [(19,⟨1,3,1,false,false,s_int.F (l6.set i8.toNat i7)⟩),(16,rb 1 s_Arr2_i64 r1)] 2 ?_
  refine Rgd hT 3 [1,6,7,9] [(9,vi (wr (i7 + 1)))] ?_
  exact oK [1,6,7,9] [(16,16,1),(19,19,1)] ⟨_,by omega,by omega,l6.set i8.toNat i7,wr (i7 + 1),h,rfl⟩
 refine WA_exit ?_
 refine Qz hT 3 [4,5] ⟨[(4,vs 19 1 s_int l6),(5,vi 0)],[(16,rb 1 s_Arr2_i64 r1),(19,⟨1,3,1,false,false,s_int.F l6⟩)],2⟩ ?_
 refine aW [4,5] ⟨[(4,vs 19 1 s_int l6),(5,vi 0)],[(16,rb 1 s_Arr2_i64 r1),(19,⟨1,3,1,false,false,s_int.F l6⟩)],2⟩ ?_
 refine WA_weak (wL [(4,vs 19 1 s_int l6),(5,vi 0)] [(16,rb 1 s_Arr2_i64 r1),(19,rb 1 s_int l6)] ⟨VLf.refl _,VLf.refl _,trivial⟩ ⟨rfl,.inl rfl,rfl,.inr (.inr rfl),trivial⟩) ?_
 obtain rfl:=Option.some.inj h
 exact rR [(19,100,1)] ⟨[(4,vs 100 1 s_int l6),(5,vi 0)],[(100,rb 1 s_int l6)],2⟩ ⟨by kernel_rfl,by kernel_rfl,rfl⟩
theorem law25_known_ok {n : Nat} {r : Bool} (h : law25_known n = some r) : PT Tryz.prog 11 [] (vb r):=by
 unfold law25_known at h
 refine PT_bodyA hT Tryz.func11 rfl (by kernel_rfl) fun bad w=>?_
 refine Qz hT 1 [] ⟨[],[],0⟩ ?_
 refine WA_seq ?_
 refine WA_region ?_
 obtain ⟨r1,hr1,h⟩:=bsome h
 refine Pt' en4 (law25_read_ok hr1) ?_
 refine Sg hT 2 [4,5,6] ⟨[(4,eProg r1),(5,vs 5 0 s_string [k_x]),(6,vs 6 1 s_string [k_y])],[(6,⟨1,9,1,false,false,s_string.F [k_y]⟩),(5,⟨0,9,1,false,false,s_string.F [k_x]⟩)],2⟩ ?_
 refine WO_weak (wF 5 0 ⟨0,9,1,false,false,s_string.F [k_x]⟩ [(4,eProg r1),(5,po s_string [k_x]),(6,vs 6 1 s_string [k_y])] [(6,⟨1,9,1,false,false,s_string.F [k_y]⟩)] ⟨rfl,.keep _,rfl,.hit true,rfl,.keep _,trivial⟩ ⟨rfl,.inl rfl,trivial⟩) ?_
 refine WO_weak (wF 6 1 ⟨1,9,1,false,false,s_string.F [k_y]⟩ [(4,eProg r1),(5,po s_string [k_x]),(6,po s_string [k_y])] [] ⟨rfl,.keep _,rfl,.keep _,rfl,.hit true,trivial⟩ trivial) ?_
 refine Sg hT 1 [4,7] ⟨[(4,eProg r1),(7,vs 7 2 s_Lstring [[k_x],[k_y]])],[(7,⟨2,47,1,false,false,s_Lstring.F [[k_x],[k_y]]⟩)],3⟩ ?_
 refine WO_weak (wF 7 2 ⟨2,47,1,false,false,s_Lstring.F [[k_x],[k_y]]⟩ [(4,eProg r1),(7,po s_Lstring [[k_x],[k_y]])] [] ⟨rfl,.keep _,rfl,.hit true,trivial⟩ trivial) ?_
 obtain ⟨r2,hr2,h⟩:=bsome h
 refine Pt' en9 (rank_Order_ok hr2) ?_
 refine Sz hT 5 [1,2] ⟨[(1,.ps .fopt (s_int.F r2.1)),(2,vi r2.2)],[],3⟩ ?_
 refine WA_seq ?_
 obtain ⟨J4,hJ4,h⟩:=jsome h
 refine WA_join (fun s=>∃ (b3 : Bool),J4 b3 = some r ∧ s = ⟨[(0,vb b3)],[],1⟩) ?_ ?_
 ·refine Rgd hT 3 [1,13] [(13,vb (r2.2 == 0))] ?_
  cases hb : ((r2.2 == 0) : Bool)
  ·replace h:=cfalse hb h
   refine Sg hT 17 [0] ⟨[(0,vb false)],[],3⟩ ?_
   exact oK [0] [] ⟨false,h,rfl⟩
  replace h:=ctrue hb h
  refine Sgd hT 1 [1,13,14] [(14,.ps .fopt (s_int.F r2.1))] ?_
  refine One' hT rfl (v_len s_int .fopt r2.1) ?_
  refine Sgd hT 3 [1,18] [(18,vb ((ln r2.1) == 2))] ?_
  cases hb : (((ln r2.1) == 2) : Bool)
  ·replace h:=cfalse hb h
   refine Sg hT 12 [0] ⟨[(0,vb false)],[],3⟩ ?_
   exact oK [0] [] ⟨false,h,rfl⟩
  replace h:=ctrue hb h
  refine Sgd hT 1 [1,18,19] [(19,.ps .fopt (s_int.F r2.1))] ?_
  obtain ⟨x5,hx5,h⟩:=bsome h
  refine One' hT rfl (v_index s_int .fopt r2.1 .i64 0 hx5) ?_
  refine Sgd hT 4 [1,24] [(24,vb (x5 == 0))] ?_
  cases hb : ((x5 == 0) : Bool)
  ·replace h:=cfalse hb h
   refine Sg hT 6 [0] ⟨[(0,vb false)],[],3⟩ ?_
   exact oK [0] [] ⟨false,h,rfl⟩
  replace h:=ctrue hb h
  refine Sg hT 1 [24,25] ⟨[(24,vb true),(25,.ps .fopt (s_int.F r2.1))],[],3⟩ ?_
  obtain ⟨x6,hx6,h⟩:=bsome h
  refine One' hT rfl (v_index s_int .fopt r2.1 .i64 1 hx6) ?_
  refine Sg hT 4 [0] ⟨[(0,vb (x6 == 1))],[],3⟩ ?_
  exact oK [0] [] ⟨(x6 == 1),h,rfl⟩
 subst hJ4
 rintro s ⟨b3,h,rfl⟩
 obtain rfl:=Option.some.inj h
 exact rK [0] [] ⟨[(0,vb b3)],[],1⟩ ⟨by kernel_rfl,rfl⟩
theorem law25_RankTells_ok {n : Nat} {a0 : Int} {a1 : List Act} {a2 : List Act} {a3 : List Act} {a4 : Int} {r : Bool} (h : law25_RankTells n a0 a1 a2 a3 a4 = some r) : PT Tryz.prog 3 [vi a0,po s_Act a1,po s_Act a2,po s_Act a3,vi a4] (vb r):=by
 unfold law25_RankTells at h
 refine PT_bodyA hT Tryz.func3 rfl (by kernel_rfl) fun bad w=>?_
 refine Qzd hT 1 [0,1,2,3,4] [] ?_
 refine Qg hT 4 [4,21,22,23,24] ⟨[(4,vi a4),(21,vi a0),(22,po s_Act a1),(23,po s_Act a2),(24,po s_Act a3)],[],0⟩ ?_
 obtain ⟨r1,hr1,h⟩:=bsome h
 refine Pt' en5 (hand_Good_ok hr1) ?_
 refine Sg hT 0 [4,25] ⟨[(4,vi a4),(25,vw r1)],[],0⟩ ?_
 obtain ⟨r2,hr2,h⟩:=bsome h
 refine Pt' en4 (law25_read_ok hr2) ?_
 refine Sz hT 2 [4,11] ⟨[(4,vi a4),(11,bx 11 0)],[(11,cb 0 26 2 (eProg r2))],1⟩ ?_
 refine Qgd hT 1 [11,27] [(27,vi a4)] ?_
 obtain ⟨r3,hr3,h⟩:=bsome h
 refine Og [] [(100,rb 1 s_Lstring r3)] [vi a4] [vi a4] [] [(100,28,1)] [(28,rb 1 s_Lstring r3)] (vs 100 1 s_Lstring r3) (vs 28 1 s_Lstring r3) 2 en6 (law25_groups_ok hr3) ?_
 refine Sz hT 1 [11,12] ⟨[(11,bx 11 0),(12,vs 28 1 s_Lstring r3)],[(28,rb 1 s_Lstring r3),(11,cb 0 26 2 (eProg r2))],2⟩ ?_
 refine Qgd hT 2 [11,12,29,30] [(29,eProg r2),(30,vs 28 1 s_Lstring r3)] ?_
 refine WO_weak (wF 28 1 (rb 1 s_Lstring r3) [(11,bx 11 0),(12,po s_Lstring r3),(29,eProg r2),(30,po s_Lstring r3)] [(11,cb 0 26 2 (eProg r2))] ⟨rfl,.keep _,rfl,.hit true,rfl,.keep _,rfl,.hit true,trivial⟩ ⟨rfl,.inl rfl,trivial⟩) ?_
 obtain ⟨r4,hr4,h⟩:=bsome h
 refine Pt' en7 (rank_Inside_ok hr4) ?_
 refine Szd hT 1 [11,12,13] [(13,.ps .fopt (s_Arr2_i64.F r4))] ?_
 refine Qgd hT 2 [11,12,13,32,33] [(32,eProg r2),(33,po s_Lstring r3)] ?_
 obtain ⟨r5,hr5,h⟩:=bsome h
 refine Og [] [(100,rb 1 s_Arr2_i64 r5)] [eProg r2,po s_Lstring r3] [eProg r2,po s_Lstring r3] [] [(100,34,2)] [(34,rb 2 s_Arr2_i64 r5)] (vs 100 1 s_Arr2_i64 r5) (vs 34 2 s_Arr2_i64 r5) 3 en8 (ref22_Inside_ok hr5) ?_
 refine Szh hT 1 [11,12,13,14] [(14,vs 34 2 s_Arr2_i64 r5)] [(34,rb 2 s_Arr2_i64 r5),(11,cb 0 26 2 (eProg r2))] 3 ?_
 refine Qgd hT 2 [11,12,13,14,36,37] [(36,eProg r2),(37,po s_Lstring r3)] ?_
 obtain ⟨r6,hr6,h⟩:=bsome h
 refine Pt' en9 (rank_Order_ok hr6) ?_
 refine Szd hT 5 [11,12,13,14,15,16] [(15,.ps .fopt (s_int.F r6.1)),(16,vi r6.2)] ?_
 refine Qgd hT 2 [13,14,15,16,42,43] [(42,eProg r2),(43,po s_Lstring r3)] ?_
 obtain ⟨r7,hr7,h⟩:=bsome h
 refine Og [] [(100,rb 1 s_int r7.1)] [eProg r2,po s_Lstring r3] [eProg r2,po s_Lstring r3] [] [(100,44,3)] [(44,rb 3 s_int r7.1)] (.tup [vs 100 1 s_int r7.1,vi r7.2]) (.tup [vs 44 3 s_int r7.1,vi r7.2]) 4 en10 (ref22_Order_ok hr7) ?_
 refine Szh hT 5 [13,14,15,16,17,18] [(17,vs 44 3 s_int r7.1),(18,vi r7.2)] [(44,rb 3 s_int r7.1),(34,rb 2 s_Arr2_i64 r5),(11,cb 0 26 2 (eProg r2))] 4 ?_
 refine WA_seq ?_
 refine WA_seq ?_
 obtain ⟨J9,hJ9,h⟩:=jsome h
 refine WA_join (fun s=>∃ (b8 : Bool),J9 b8 = some r ∧ s = ⟨[(13,.ps .fopt (s_Arr2_i64.F r4)),(14,vs 34 0 s_Arr2_i64 r5),(15,.ps .fopt (s_int.F r6.1)),(17,vs 44 0 s_int r7.1),(67,vb b8)],[(34,rb 0 s_Arr2_i64 r5),(44,rb 0 s_int r7.1)],1⟩) ?_ ?_
 ·refine WA_region ?_
  obtain ⟨r10,hr10,h⟩:=bsome h
  refine Pt' en11 (law25_known_ok hr10) ?_
  refine Sgd hT 2 [13,14,15,16,17,18,49] [(49,vb (!r10))] ?_
  cases hb : (!r10 : Bool)
  ·replace h:=cfalse hb h
   refine Sgd hT 1 [13,14,15,16,17,18,49,50] [(50,.ps .fopt (s_Arr2_i64.F r4))] ?_
   refine One' hT rfl (v_len s_Arr2_i64 .fopt r4) ?_
   refine Sgd hT 1 [13,14,15,16,17,18,49,51,52] [(51,vi (ln r4)),(52,vs 34 2 s_Arr2_i64 r5)] ?_
   refine One' hT rfl (v_len_own s_Arr2_i64 34 2 true (rb 2 s_Arr2_i64 r5) r5) ?_
   refine Sgd hT 3 [13,14,15,16,17,18,56] [(56,vb ((ln r4) != (ln r5)))] ?_
   cases hb : (((ln r4) != (ln r5)) : Bool)
   ·replace h:=cfalse hb h
    refine Sgd hT 5 [13,14,15,17,61] [(61,vb (r6.2 != r7.2))] ?_
    cases hb : ((r6.2 != r7.2) : Bool)
    ·replace h:=cfalse hb h
     refine Sgd hT 1 [13,14,15,17,61,62] [(62,.ps .fopt (s_int.F r6.1))] ?_
     refine One' hT rfl (v_len s_int .fopt r6.1) ?_
     refine Sgd hT 1 [13,14,15,17,61,63,64] [(63,vi (ln r6.1)),(64,vs 44 3 s_int r7.1)] ?_
     refine One' hT rfl (v_len_own s_int 44 3 true (rb 3 s_int r7.1) r7.1) ?_
     refine Sg hT 2 [13,14,15,17,67] ⟨[(13,.ps .fopt (s_Arr2_i64.F r4)),(14,vs 34 2 s_Arr2_i64 r5),(15,.ps .fopt (s_int.F r6.1)),(17,vs 44 3 s_int r7.1),(67,vb ((ln r6.1) != (ln r7.1)))],[(44,rb 3 s_int r7.1),(34,rb 2 s_Arr2_i64 r5),(11,cb 0 26 2 (eProg r2))],4⟩ ?_
     exact oK [13,14,15,17,67] [(34,34,0),(44,44,0)] ⟨((ln r6.1) != (ln r7.1)),h,rfl⟩
    replace h:=ctrue hb h
    refine Sgd hT 6 [13,14,15,17,67] [(67,vb true)] ?_
    exact oK [13,14,15,17,67] [(34,34,0),(44,44,0)] ⟨true,h,rfl⟩
   replace h:=ctrue hb h
   refine Sgd hT 11 [13,14,15,17,67] [(67,vb true)] ?_
   exact oK [13,14,15,17,67] [(34,34,0),(44,44,0)] ⟨true,h,rfl⟩
  replace h:=ctrue hb h
  refine Sgd hT 18 [13,14,15,17,67] [(67,vb true)] ?_
  exact oK [13,14,15,17,67] [(34,34,0),(44,44,0)] ⟨true,h,rfl⟩
 subst hJ9
 rintro s ⟨b8,h,rfl⟩
 refine Ci h (fun h=>?_) fun h=>?_
 ·refine Qzd hT 1 [10] [(10,vb false)] ?_
  obtain rfl:=Option.some.inj h
  exact rK [10] [] ⟨[(10,vb false)],[],1⟩ ⟨by kernel_rfl,rfl⟩
 refine WA_skip ?_
 refine WA_seq ?_
 refine Qgd hT 1 [13,14,15,17,68] [(68,.ps .fopt (s_Arr2_i64.F r4))] ?_
 refine One' hT rfl (v_len s_Arr2_i64 .fopt r4) ?_
 refine Szd hT 1 [13,14,15,17,69,70] [(69,vi (ln r4)),(70,vi 0)] ?_
 refine WA_block ?_
 refine lK [13,14,15,17,69,70] [(34,34,0),(44,44,0)] (fun k s=>∃ q,q ≤ k ∧ q ≤ n ∧ ∃ (i11 : Int),law25_RankTells_L0 q a0 a1 a2 a3 a4 r1 r2 r3 r4 r5 r6 r7 b8 i11 = some r ∧ s = ⟨[(13,.ps .fopt (s_Arr2_i64.F r4)),(14,vs 34 0 s_Arr2_i64 r5),(15,.ps .fopt (s_int.F r6.1)),(17,vs 44 0 s_int r7.1),(69,vi (ln r4)),(70,vi i11)],[(34,rb 0 s_Arr2_i64 r5),(44,rb 0 s_int r7.1)],1⟩) n ⟨n,Nat.le_refl _,Nat.le_refl _,0,h,rfl⟩ (by rintro s ⟨q,hq,_,i11,h,_⟩; obtain rfl:=Nat.le_zero.1 hq; rw [law25_RankTells_L0] at h; cases h) ?_
 clear h
 rintro k1 s ⟨q1,hk1,hn1,i11,h,rfl⟩
 rcases q1 with _ | q1
 ·rw [law25_RankTells_L0] at h; cases h
 rw [law25_RankTells_L0] at h
 refine Qzd hT 1 [13,14,15,17,69,70,71] [(71,vb (decide (i11 < (ln r4))))] ?_
 refine WA_seq ?_
 refine Ci h (fun h=>?_) fun h=>?_
 ·refine WA_skip ?_
  refine WA_seq ?_
  refine WA_block ?_
  refine Qzd hT 2 [13,14,15,17,19,69,70] [(19,vi i11)] ?_
  refine WA_seq ?_
  refine WA_drawW hT hM (by kernel_rfl) ?_
  refine Ds 2 [(74,vi i11),(73,.ps .fopt (s_Arr2_i64.F r4))] [] [] ?_
  obtain ⟨x12,hx12,h⟩:=bsome h
  refine Dl rfl (v_index s_Arr2_i64 .fopt r4 .i64 i11 hx12) ?_
  refine Dt (.ref (eArr2_i64 x12) 0) ?_
  refine Ds 3 [(78,vi i11),(77,vs 34 0 s_Arr2_i64 r5),(76,eArr2_i64 x12)] [] [] ?_
  obtain ⟨x13,hx13,h⟩:=bsome h
  refine Dl rfl (v_index_own s_Arr2_i64 34 0 true (rb 0 s_Arr2_i64 r5) r5 .i64 i11 hx13) ?_
  refine Dt (.box 34 0 i11.toNat 0) ?_
  refine Dl rfl (v_load_row s_Arr2_i64 34 0 (rb 0 s_Arr2_i64 r5) r5 i11.toNat 0 x13 (eArr2_i64 x13) (idx_some hx13).2) ?_
  refine Dt (eArr2_i64 x13) ?_
  refine Dl rfl (ev_neqA [.int .i64 x12.e0 x13.e0,.int .i64 x12.e1 x13.e1] (by kernel_rfl) (by kernel_rfl) (eqlArr [.int .i64 x12.e0 x13.e0,.int .i64 x12.e1 x13.e1] 3 (.int .i64) _ (by kernel_rfl) (by kernel_rfl) (by kernel_rfl) (by kernel_rfl) (by kernel_rfl)) (by kernel_rfl)) ?_
  refine Dt (vb (!(andL [x12.e0 == x13.e0,x12.e1 == x13.e1]))) ?_
  refine De ?_
  refine Wk_done ?_
  refine Ci h (fun h=>?_) fun h=>?_
  ·refine Qzd hT 1 [10] [(10,vb false)] ?_
   obtain rfl:=Option.some.inj h
   exact rK [10] [] ⟨[(10,vb false)],[],1⟩ ⟨by kernel_rfl,rfl⟩
  refine WA_skip ?_
  refine Rg hT 2 [13,14,15,17,69,70] ⟨[(13,.ps .fopt (s_Arr2_i64.F r4)),(14,vs 34 0 s_Arr2_i64 r5),(15,.ps .fopt (s_int.F r6.1)),(17,vs 44 0 s_int r7.1),(69,vi (ln r4)),(70,vi (wr (i11 + 1)))],[(34,rb 0 s_Arr2_i64 r5),(44,rb 0 s_int r7.1)],1⟩ ?_
  exact oK [13,14,15,17,69,70] [(34,34,0),(44,44,0)] ⟨_,by omega,by omega,wr (i11 + 1),h,rfl⟩
 refine WA_exit ?_
 refine WA_seq ?_
 refine Qgd hT 1 [15,17,83] [(83,.ps .fopt (s_int.F r6.1))] ?_
 refine One' hT rfl (v_len s_int .fopt r6.1) ?_
 refine Szd hT 1 [15,17,84,85] [(84,vi (ln r6.1)),(85,vi 0)] ?_
 refine WA_block ?_
 refine lK [15,17,84,85] [(44,44,0)] (fun k s=>∃ q,q ≤ k ∧ q ≤ q1 ∧ ∃ (i14 : Int),law25_RankTells_L1 q a0 a1 a2 a3 a4 r1 r2 r3 r4 r5 r6 r7 b8 i11 i14 = some r ∧ s = ⟨[(15,.ps .fopt (s_int.F r6.1)),(17,vs 44 0 s_int r7.1),(84,vi (ln r6.1)),(85,vi i14)],[(44,rb 0 s_int r7.1)],1⟩) q1 ⟨q1,Nat.le_refl _,Nat.le_refl _,0,h,rfl⟩ (by rintro s ⟨q,hq,_,i14,h,_⟩; obtain rfl:=Nat.le_zero.1 hq; rw [law25_RankTells_L1] at h; cases h) ?_
 clear h
 rintro k2 s ⟨q2,hk2,hn2,i14,h,rfl⟩
 rcases q2 with _ | q2
 ·rw [law25_RankTells_L1] at h; cases h
 rw [law25_RankTells_L1] at h
 refine Qzd hT 1 [15,17,84,85,86] [(86,vb (decide (i14 < (ln r6.1))))] ?_
 refine WA_seq ?_
 refine Ci h (fun h=>?_) fun h=>?_
 ·refine WA_skip ?_
  refine WA_seq ?_
  refine WA_block ?_
  refine Qzd hT 2 [15,17,20,84,85] [(20,vi i14)] ?_
  refine WA_seq ?_
  refine WA_drawW hT hM (by kernel_rfl) ?_
  refine Ds 2 [(89,vi i14),(88,.ps .fopt (s_int.F r6.1))] [] [] ?_
  obtain ⟨x15,hx15,h⟩:=bsome h
  refine Dl rfl (v_index s_int .fopt r6.1 .i64 i14 hx15) ?_
  refine Dt (.ref (e_i64 x15) 0) ?_
  refine Ds 3 [(93,vi i14),(92,vs 44 0 s_int r7.1),(91,vi x15)] [] [] ?_
  obtain ⟨x16,hx16,h⟩:=bsome h
  refine Dl rfl (v_index_own s_int 44 0 true (rb 0 s_int r7.1) r7.1 .i64 i14 hx16) ?_
  refine Dt (.box 44 0 i14.toNat 0) ?_
  refine Dl rfl (v_load_row s_int 44 0 (rb 0 s_int r7.1) r7.1 i14.toNat 0 x16 (vi x16) (idx_some hx16).2) ?_
  refine Dt (vi x16) ?_
  refine Ds 1 [(96,vb (x15 != x16))] [] [] ?_
  refine De ?_
  refine Wk_done ?_
  refine Ci h (fun h=>?_) fun h=>?_
  ·refine Qzd hT 1 [10] [(10,vb false)] ?_
   obtain rfl:=Option.some.inj h
   exact rK [10] [] ⟨[(10,vb false)],[],1⟩ ⟨by kernel_rfl,rfl⟩
  refine WA_skip ?_
  refine Rgd hT 2 [15,17,84,85] [(85,vi (wr (i14 + 1)))] ?_
  exact oK [15,17,84,85] [(44,44,0)] ⟨_,by omega,by omega,wr (i14 + 1),h,rfl⟩
 refine WA_exit ?_
 refine Qzd hT 1 [10] [(10,vb true)] ?_
 obtain rfl:=Option.some.inj h
 exact rK [10] [] ⟨[(10,vb true)],[],1⟩ ⟨by kernel_rfl,rfl⟩
end Go.Su.YtcadbebhhnggdaaGreat
