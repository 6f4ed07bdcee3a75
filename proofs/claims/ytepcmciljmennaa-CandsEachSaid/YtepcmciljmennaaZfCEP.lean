/-
  The functions of the program compute that.
-/
import Derived.Test.YtepcmciljmennaaZfCEPb
namespace Go.Su.Ytepcmciljmennaa
open Go.Mx Go.Proofs
set_option maxRecDepth 100000
set_option maxHeartbeats 20000000
set_option linter.unusedVariables false
set_option linter.unusedSimpArgs false
theorem Clone_Expr_ok {n : Nat} {a0 : List Expr} {r : List Expr} (h : Clone_Expr n a0 = some r) : GO Try.prog 90 [] [po s_Expr a0] (vs 100 1 s_Expr r) [(100,rb 1 s_Expr r)]:=by
 unfold Clone_Expr at h
 refine GO_bodyA hT Try.func90 rfl [] (by kernel_rfl) fun bad w m=>?_
 refine Qzd hT 1 [0] [] ?_
 refine WA_seq ?_
 refine Qgd hT 1 [0,3] [(3,po s_Expr a0)] ?_
 refine WO_isnil' hT s_Expr rfl (by kernel_rfl) .opt a0 rfl (by kernel_rfl) (by kernel_rfl) ?_
 intro b1 hnil
 cases b1
 ·clear hnil
  refine Szh hT 0 [0,4] [(4,vb false)] [] 1 ?_
  refine WA_cond false (by kernel_rfl) (fun hb=>by cases hb) (fun _=>?_)
  refine WA_skip ?_
  refine Qg hT 2 [5,6] ⟨[(5,vs 5 1 s_Expr ([] : List Expr)),(6,po s_Expr a0)],[(5,⟨1,91,4,false,false,s_Expr.F ([] : List Expr)⟩)],2⟩ ?_
  obtain ⟨g2,h⟩:=gsome h
  refine Oa hT s_Expr 5 1 false ([] : List Expr) a0 (by kernel_rfl) g2 ?_
  refine Sz hT 1 [2] ⟨[(2,vs 7 2 s_Expr (([] : List Expr) ++ a0))],[(7,rb 2 s_Expr (([] : List Expr) ++ a0))],3⟩ ?_
  obtain rfl:=Option.some.inj h
  exact rK [2] [(7,100,1)] ⟨[(2,vs 100 1 s_Expr (([] : List Expr) ++ a0))],[(100,rb 1 s_Expr (([] : List Expr) ++ a0))],2⟩ ⟨by kernel_rfl,by kernel_rfl,rfl⟩
 ·replace h : some ([] : List Expr) = some r:=by (have e:=hnil rfl; subst e; first | exact h | (obtain ⟨_,h⟩:=gsome h; simpa using h))
  clear hnil
  refine Szh hT 0 [0,4] [(4,vb true)] [] 1 ?_
  refine WA_cond true (by kernel_rfl) (fun _=>?_) (fun hb=>by cases hb)
  refine Qz hT 1 [2] ⟨[(2,vn)],[],1⟩ ?_
  refine aW [2] ⟨[(2,vn)],[],1⟩ ?_
  refine WA_weak (wO 2 5000 91 4) ?_
  obtain rfl:=Option.some.inj h
  exact rK [2] [(5000,100,1)] ⟨[(2,vs 100 1 s_Expr ([] : List Expr))],[(100,rb 1 s_Expr ([] : List Expr))],2⟩ ⟨by kernel_rfl,by kernel_rfl,rfl⟩
theorem Clip_Expr_o_ok {n : Nat} {a0 : List Expr} {r : List Expr} (h : Clip_Expr_o n a0 = some r) : GO Try.prog 89 [(0,rb 0 s_Expr a0)] [vs 0 0 s_Expr a0] (.sl 100 1 0 (s_Expr.F r).length false) [(100,rb 1 s_Expr r)]:=by
 unfold Clip_Expr_o at h
 refine GO_bodyA hT Try.func89 rfl [] (by kernel_rfl) fun bad w m=>?_
 refine Qzd hT 1 [0] [] ?_
 refine Qgd hT 2 [0,3,4] [(3,vs 0 0 s_Expr a0),(4,vs 0 0 s_Expr a0)] ?_
 refine One' hT rfl (v_len_own s_Expr 0 0 true (rb 0 s_Expr a0) a0) ?_
 refine Sgd hT 1 [3,5,6] [(5,vi (ln a0)),(6,vs 0 0 s_Expr a0)] ?_
 refine One' hT rfl (v_len_own s_Expr 0 0 true (rb 0 s_Expr a0) a0) ?_
 refine Sgd hT 0 [3,5,7] [(7,vi (ln a0))] ?_
 refine WO_clip' hT s_Expr rfl (by kernel_rfl) 0 0 (s_Expr.F a0).length true (rb 0 s_Expr a0) rfl (by kernel_rfl) (by kernel_rfl) rfl (by rw [TE.len]; kernel_rfl) (by rw [TE.len]; kernel_rfl) (by kernel_rfl) ?_
 refine Sz hT 1 [2] ⟨[(2,.sl 0 0 0 (s_Expr.F a0).length false)],[(0,rb 0 s_Expr a0)],1⟩ ?_
 obtain rfl:=Option.some.inj h
 exact rK [2] [(0,100,1)] ⟨[(2,.sl 100 1 0 (s_Expr.F a0).length false)],[(100,rb 1 s_Expr a0)],2⟩ ⟨by kernel_rfl,by kernel_rfl,rfl⟩
def tree_copyExpr_spec (n : Nat) : Prop:=(∀ {a0 : Expr} {r : Expr},tree_copyExpr n a0 = some r → PT Try.prog 82 [eExpr a0] (eExpr r))
theorem tree_copyExpr_step (n : Nat) (ih : ∀ m,m < n → tree_copyExpr_spec m) : ∀ {a0 : Expr} {r : Expr},tree_copyExpr n a0 = some r → PT Try.prog 82 [eExpr a0] (eExpr r):=by
 intro a0 r h
 rcases n with _ | n
 ·rw [tree_copyExpr] at h; cases h
 rw [tree_copyExpr] at h
 refine PT_bodyA hT Try.func82 rfl (by kernel_rfl) fun bad w=>?_
 refine Qz hT 2 [1,2] ⟨[(1,bx 1 0),(2,bx 2 1)],[(2,cb 1 91 4 (.agg [vi 0,vi 0,vw b0,vn])),(1,cb 0 91 4 (eExpr a0))],2⟩ ?_
 refine Qgd hT 2 [1,2,6] [(6,po s_Expr a0.Of)] ?_
 obtain ⟨r1,hr1,h⟩:=bsome h
 refine Og [] [(100,rb 1 s_Expr r1)] [po s_Expr a0.Of] [po s_Expr a0.Of] [] [(100,7,2)] [(7,rb 2 s_Expr r1)] (vs 100 1 s_Expr r1) (vs 7 2 s_Expr r1) 3 en90 (Clone_Expr_ok hr1) ?_
 refine Sgh hT 0 [1,2,7] [(7,vs 7 2 s_Expr r1)] [(7,rb 2 s_Expr r1),(2,cb 1 91 4 (.agg [vi 0,vi 0,vw b0,vn])),(1,cb 0 91 4 (eExpr a0))] 3 ?_
 obtain ⟨r2,hr2,h⟩:=bsome h
 refine Og [(0,rb 0 s_Expr r1)] [(100,rb 1 s_Expr r2)] [vs 7 2 s_Expr r1] [vs 0 0 s_Expr r1] [(7,0,0)] [(100,8,3)] [(8,rb 3 s_Expr r2)] (.sl 100 1 0 (s_Expr.F r2).length false) (.sl 8 3 0 (s_Expr.F r2).length false) 4 en89 (Clip_Expr_o_ok hr2) ?_
 refine Szh hT 2 [1,2] [] [(1,cb 0 91 4 (.agg [vi a0.Kind,vi a0.N,vw a0.Name,.sl 8 3 0 (s_Expr.F r2).length false])),(8,rb 3 s_Expr r2),(2,cb 1 91 4 (.agg [vi 0,vi 0,vw b0,vn]))] 4 ?_
 refine WA_seq ?_
 refine Qgd hT 2 [1,2,11] [(11,.sl 8 3 0 (s_Expr.F r2).length false)] ?_
 refine One' hT rfl (v_len_own s_Expr 8 3 false (rb 3 s_Expr r2) r2) ?_
 refine Szd hT 1 [1,2,11,12,13] [(12,vi (ln r2)),(13,vi 0)] ?_
 refine WA_block ?_
 refine lK [1,2,11,12,13] [(1,1,0),(2,2,0),(8,8,0)] (fun k s=>∃ q,q ≤ k ∧ q ≤ n ∧ ∃ (l4 : List Expr),∃ (w5 : ByteArray),∃ (i6 : Int),tree_copyExpr_L0 q a0 r1 r2 l4 w5 i6 = some r ∧ s = ⟨[(1,bx 1 0),(2,bx 2 0),(11,.sl 8 0 0 (s_Expr.F l4).length false),(12,vi (ln r2)),(13,vi i6)],[(1,cb 0 91 4 (.agg [vi a0.Kind,vi a0.N,vw a0.Name,.sl 8 0 0 (s_Expr.F l4).length false])),(2,cb 0 91 4 (.agg [vi 0,vi 0,vw w5,vn])),(8,rb 0 s_Expr l4)],1⟩) n ⟨n,Nat.le_refl _,Nat.le_refl _,r2,b0,0,h,rfl⟩ (by rintro s ⟨q,hq,_,l4,w5,i6,h,_⟩; obtain rfl:=Nat.le_zero.1 hq; rw [tree_copyExpr_L0] at h; cases h) ?_
 clear h
 rintro k1 s ⟨q1,hk1,hn1,l4,w5,i6,h,rfl⟩
 rcases q1 with _ | q1
 ·rw [tree_copyExpr_L0] at h; cases h
 rw [tree_copyExpr_L0] at h
 refine Qzd hT 1 [1,2,11,12,13,14] [(14,vb (decide (i6 < (ln r2))))] ?_
 refine WA_seq ?_
 refine Ci h (fun h=>?_) fun h=>?_
 ·refine WA_skip ?_
  refine WA_seq ?_
  refine WA_block ?_
  refine Qgd hT 1 [1,2,11,12,13,15] [(15,vi i6)] ?_
  obtain ⟨x7,hx7,h⟩:=bsome h
  refine One' hT rfl (v_index_own s_Expr 8 0 false (rb 0 s_Expr l4) l4 .i64 i6 hx7) ?_
  refine Sg hT 0 [1,2,11,12,13,15,16] ⟨[(1,bx 1 0),(2,bx 2 0),(11,.sl 8 0 0 (s_Expr.F l4).length false),(12,vi (ln r2)),(13,vi i6),(15,vi i6),(16,.box 8 0 i6.toNat 0)],[(1,cb 0 91 4 (.agg [vi a0.Kind,vi a0.N,vw a0.Name,.sl 8 0 0 (s_Expr.F l4).length false])),(2,cb 0 91 4 (.agg [vi 0,vi 0,vw w5,vn])),(8,rb 0 s_Expr l4)],1⟩ ?_
  refine One' hT rfl (v_load_row s_Expr 8 0 (rb 0 s_Expr l4) l4 i6.toNat 0 x7 (eExpr x7) (idx_some hx7).2) ?_
  refine Szh hT 3 [1,2,3,4,11,12,13] [(3,vi i6),(4,bx 4 1)] [(4,cb 1 91 4 (eExpr x7)),(1,cb 0 91 4 (.agg [vi a0.Kind,vi a0.N,vw a0.Name,.sl 8 0 0 (s_Expr.F l4).length false])),(2,cb 0 91 4 (.agg [vi 0,vi 0,vw w5,vn])),(8,rb 0 s_Expr l4)] 2 ?_
  refine WA_drawW hT hM (by kernel_rfl) ?_
  refine Ds 4 [(21,eExpr x7),(20,vi i6),(19,.sl 8 0 0 (s_Expr.F l4).length false),(18,.box 1 0 0 3)] [] [(0,[1]),(1,[1]),(3,[4])] ?_
  obtain ⟨r8,hr8,h⟩:=bsome h
  refine Dp [eExpr x7] (eExpr r8) en82 ((ih _ (by omega)) hr8) ?_
  obtain ⟨x9,hx9,h⟩:=bsome h
  refine Dl rfl (v_index_own s_Expr 8 0 false (rb 0 s_Expr l4) l4 .i64 i6 hx9) ?_
  refine Dt (.box 8 0 i6.toNat 0) ?_
  refine Dw rfl (v_storeRow s_Expr 8 0 (rb 0 s_Expr l4) l4 i6.toNat 0 x9 r8 (idx_some hx9).2) ?_
  refine De ?_
  refine kW [1,2,11,12,13] ⟨[(1,bx 1 0),(2,bx 2 0),(11,.sl 8 0 0 (s_Expr.F l4).length false),(12,vi (ln r2)),(13,vi i6)],[(8,rb 0 s_Expr (l4.set i6.toNat r8)),(4,cb 1 91 4 (eExpr x7)),(1,cb 0 91 4 (.agg [vi a0.Kind,vi a0.N,vw a0.Name,.sl 8 0 0 (s_Expr.F l4).length false])),(2,cb 0 91 4 (.agg [vi 0,vi 0,vw w5,vn]))],2⟩ ?_
  refine Wk_step (wL [(1,bx 1 0),(2,bx 2 0),(11,.sl 8 0 0 (s_Expr.F (l4.set i6.toNat r8)).length false),(12,vi (ln r2)),(13,vi i6)] [(8,rb 0 s_Expr (l4.set i6.toNat r8)),(4,cb 1 91 4 (eExpr x7)),(1,cb 0 91 4 (.agg [vi a0.Kind,vi a0.N,vw a0.Name,.sl 8 0 0 (s_Expr.F (l4.set i6.toNat r8)).length false])),(2,cb 0 91 4 (.agg [vi 0,vi 0,vw w5,vn]))] ⟨VLf.refl _,VLf.refl _,(VLf.slen (by simp [TE.len,lcopy_length,rcopy_length,clr_length])),VLf.refl _,VLf.refl _,trivial⟩ ⟨rfl,.inl rfl,rfl,.inl rfl,rfl,.inr (.inl ⟨rfl,rfl,CLe.agg ⟨VLf.refl _,VLf.refl _,VLf.refl _,(VLf.slen (by simp [TE.len,lcopy_length,rcopy_length,clr_length])),trivial⟩,trivial⟩),rfl,.inl rfl,trivial⟩) ?_
  refine Wk_done ?_
  refine Rgd hT 2 [1,2,11,12,13] [(13,vi (wr (i6 + 1)))] ?_
  exact oK [1,2,11,12,13] [(1,1,0),(2,2,0),(8,8,0)] ⟨_,by omega,by omega,l4.set i6.toNat r8,w5,wr (i6 + 1),h,rfl⟩
 refine WA_exit ?_
 refine Qz hT 2 [2] ⟨[(2,bx 2 0)],[(2,cb 0 91 4 (.agg [vi a0.Kind,vi a0.N,vw a0.Name,.sl 8 0 0 (s_Expr.F l4).length false])),(1,cb 0 91 4 (.agg [vi a0.Kind,vi a0.N,vw a0.Name,.sl 8 0 0 (s_Expr.F l4).length false])),(8,rb 0 s_Expr l4)],1⟩ ?_
 refine aW [2] ⟨[(2,bx 2 0)],[(2,cb 0 91 4 (.agg [vi a0.Kind,vi a0.N,vw a0.Name,.sl 8 0 0 (s_Expr.F l4).length false])),(1,cb 0 91 4 (.agg [vi a0.Kind,vi a0.N,vw a0.Name,.sl 8 0 0 (s_Expr.F l4).length false])),(8,rb 0 s_Expr l4)],1⟩ ?_
 refine WA_weak (wF 8 0 (rb 0 s_Expr l4) [(2,bx 2 0)] [(2,cb 0 91 4 (.agg [vi a0.Kind,vi a0.N,vw a0.Name,po s_Expr l4])),(1,cb 0 91 4 (.agg [vi a0.Kind,vi a0.N,vw a0.Name,po s_Expr l4]))] ⟨rfl,.keep _,trivial⟩ ⟨rfl,.inr ⟨rfl,rfl,.aggs ⟨.keep _,.keep _,.keep _,.hit false,trivial⟩,trivial⟩,rfl,.inr ⟨rfl,rfl,.aggs ⟨.keep _,.keep _,.keep _,.hit false,trivial⟩,trivial⟩,trivial⟩) ?_
 refine WA_weak (wL [(2,bx 2 0)] [(2,cb 0 91 4 (eExpr (Expr.mk a0.Kind a0.N a0.Name l4))),(1,cb 0 91 4 (.agg [vi a0.Kind,vi a0.N,vw a0.Name,po s_Expr l4]))] ⟨VLf.refl _,trivial⟩ ⟨rfl,.inr (.inl ⟨rfl,rfl,CLe.agg ⟨VLf.refl _,VLf.refl _,VLf.refl _,VLf.refl _,trivial⟩,trivial⟩),rfl,.inl rfl,trivial⟩) ?_
 obtain rfl:=Option.some.inj h
 exact rR [(2,1000,0)] ⟨[(2,bx 1000 0)],[(1000,cb 0 91 4 (eExpr (Expr.mk a0.Kind a0.N a0.Name l4)))],1⟩ ⟨by kernel_rfl,rfl⟩
theorem tree_copyExpr_all (n : Nat) : tree_copyExpr_spec n:=by
 induction n using Nat.strongRecOn with
 | _ n ih=>exact tree_copyExpr_step n ih
theorem tree_copyExpr_ok {n : Nat} {a0 : Expr} {r : Expr} (h : tree_copyExpr n a0 = some r) : PT Try.prog 82 [eExpr a0] (eExpr r):=(tree_copyExpr_all n) h
theorem Clone_Stmt_ok {n : Nat} {a0 : List Stmt} {r : List Stmt} (h : Clone_Stmt n a0 = some r) : GO Try.prog 91 [] [po s_Stmt a0] (vs 100 1 s_Stmt r) [(100,rb 1 s_Stmt r)]:=by
 unfold Clone_Stmt at h
 refine GO_bodyA hT Try.func91 rfl [] (by kernel_rfl) fun bad w m=>?_
 refine Qzd hT 1 [0] [] ?_
 refine WA_seq ?_
 refine Qgd hT 1 [0,3] [(3,po s_Stmt a0)] ?_
 refine WO_isnil' hT s_Stmt rfl (by kernel_rfl) .opt a0 rfl (by kernel_rfl) (by kernel_rfl) ?_
 intro b1 hnil
 cases b1
 ·clear hnil
  refine Szh hT 0 [0,4] [(4,vb false)] [] 1 ?_
  refine WA_cond false (by kernel_rfl) (fun hb=>by cases hb) (fun _=>?_)
  refine WA_skip ?_
  refine Qg hT 2 [5,6] ⟨[(5,vs 5 1 s_Stmt ([] : List Stmt)),(6,po s_Stmt a0)],[(5,⟨1,93,11,false,false,s_Stmt.F ([] : List Stmt)⟩)],2⟩ ?_
  obtain ⟨g2,h⟩:=gsome h
  refine Oa hT s_Stmt 5 1 false ([] : List Stmt) a0 (by kernel_rfl) g2 ?_
  refine Sz hT 1 [2] ⟨[(2,vs 7 2 s_Stmt (([] : List Stmt) ++ a0))],[(7,rb 2 s_Stmt (([] : List Stmt) ++ a0))],3⟩ ?_
  obtain rfl:=Option.some.inj h
  exact rK [2] [(7,100,1)] ⟨[(2,vs 100 1 s_Stmt (([] : List Stmt) ++ a0))],[(100,rb 1 s_Stmt (([] : List Stmt) ++ a0))],2⟩ ⟨by kernel_rfl,by kernel_rfl,rfl⟩
 ·replace h : some ([] : List Stmt) = some r:=by (have e:=hnil rfl; subst e; first | exact h | (obtain ⟨_,h⟩:=gsome h; simpa using h))
  clear hnil
  refine Szh hT 0 [0,4] [(4,vb true)] [] 1 ?_
  refine WA_cond true (by kernel_rfl) (fun _=>?_) (fun hb=>by cases hb)
  refine Qz hT 1 [2] ⟨[(2,vn)],[],1⟩ ?_
  refine aW [2] ⟨[(2,vn)],[],1⟩ ?_
  refine WA_weak (wO 2 5000 93 11) ?_
  obtain rfl:=Option.some.inj h
  exact rK [2] [(5000,100,1)] ⟨[(2,vs 100 1 s_Stmt ([] : List Stmt))],[(100,rb 1 s_Stmt ([] : List Stmt))],2⟩ ⟨by kernel_rfl,by kernel_rfl,rfl⟩
theorem Clip_Stmt_o_ok {n : Nat} {a0 : List Stmt} {r : List Stmt} (h : Clip_Stmt_o n a0 = some r) : GO Try.prog 65 [(0,rb 0 s_Stmt a0)] [vs 0 0 s_Stmt a0] (.sl 100 1 0 (s_Stmt.F r).length false) [(100,rb 1 s_Stmt r)]:=by
 unfold Clip_Stmt_o at h
 refine GO_bodyA hT Try.func65 rfl [] (by kernel_rfl) fun bad w m=>?_
 refine Qzd hT 1 [0] [] ?_
 refine Qgd hT 2 [0,3,4] [(3,vs 0 0 s_Stmt a0),(4,vs 0 0 s_Stmt a0)] ?_
 refine One' hT rfl (v_len_own s_Stmt 0 0 true (rb 0 s_Stmt a0) a0) ?_
 refine Sgd hT 1 [3,5,6] [(5,vi (ln a0)),(6,vs 0 0 s_Stmt a0)] ?_
 refine One' hT rfl (v_len_own s_Stmt 0 0 true (rb 0 s_Stmt a0) a0) ?_
 refine Sgd hT 0 [3,5,7] [(7,vi (ln a0))] ?_
 refine WO_clip' hT s_Stmt rfl (by kernel_rfl) 0 0 (s_Stmt.F a0).length true (rb 0 s_Stmt a0) rfl (by kernel_rfl) (by kernel_rfl) rfl (by rw [TE.len]; kernel_rfl) (by rw [TE.len]; kernel_rfl) (by kernel_rfl) ?_
 refine Sz hT 1 [2] ⟨[(2,.sl 0 0 0 (s_Stmt.F a0).length false)],[(0,rb 0 s_Stmt a0)],1⟩ ?_
 obtain rfl:=Option.some.inj h
 exact rK [2] [(0,100,1)] ⟨[(2,.sl 100 1 0 (s_Stmt.F a0).length false)],[(100,rb 1 s_Stmt a0)],2⟩ ⟨by kernel_rfl,by kernel_rfl,rfl⟩
def tree_copyBlock_spec (n : Nat) : Prop:=(∀ {a0 : List Stmt} {r : List Stmt},tree_copyBlock n a0 = some r → GO Try.prog 83 [] [po s_Stmt a0] (.sl 100 1 0 (s_Stmt.F r).length false) [(100,rb 1 s_Stmt r)]) ∧ (∀ {a0 : Stmt} {r : Stmt},tree_copyStmt n a0 = some r → PT Try.prog 64 [eStmt a0] (eStmt r))
theorem tree_copyBlock_step (n : Nat) (ih : ∀ m,m < n → tree_copyBlock_spec m) : ∀ {a0 : List Stmt} {r : List Stmt},tree_copyBlock n a0 = some r → GO Try.prog 83 [] [po s_Stmt a0] (.sl 100 1 0 (s_Stmt.F r).length false) [(100,rb 1 s_Stmt r)]:=by
 intro a0 r h
 rcases n with _ | n
 ·rw [tree_copyBlock] at h; cases h
 rw [tree_copyBlock] at h
 refine GO_bodyA hT Try.func83 rfl [] (by kernel_rfl) fun bad w m=>?_
 refine Qzd hT 1 [0] [] ?_
 refine Qg hT 1 [6] ⟨[(6,po s_Stmt a0)],[],1⟩ ?_
 obtain ⟨r1,hr1,h⟩:=bsome h
 refine Og [] [(100,rb 1 s_Stmt r1)] [po s_Stmt a0] [po s_Stmt a0] [] [(100,7,1)] [(7,rb 1 s_Stmt r1)] (vs 100 1 s_Stmt r1) (vs 7 1 s_Stmt r1) 2 en91 (Clone_Stmt_ok hr1) ?_
 refine Sg hT 0 [7] ⟨[(7,vs 7 1 s_Stmt r1)],[(7,rb 1 s_Stmt r1)],2⟩ ?_
 obtain ⟨r2,hr2,h⟩:=bsome h
 refine Og [(0,rb 0 s_Stmt r1)] [(100,rb 1 s_Stmt r2)] [vs 7 1 s_Stmt r1] [vs 0 0 s_Stmt r1] [(7,0,0)] [(100,8,2)] [(8,rb 2 s_Stmt r2)] (.sl 100 1 0 (s_Stmt.F r2).length false) (.sl 8 2 0 (s_Stmt.F r2).length false) 3 en65 (Clip_Stmt_o_ok hr2) ?_
 refine Sz hT 1 [3] ⟨[(3,.sl 8 2 0 (s_Stmt.F r2).length false)],[(8,rb 2 s_Stmt r2)],3⟩ ?_
 refine WA_seq ?_
 refine Qgd hT 1 [3,9] [(9,.sl 8 2 0 (s_Stmt.F r2).length false)] ?_
 refine One' hT rfl (v_len_own s_Stmt 8 2 false (rb 2 s_Stmt r2) r2) ?_
 refine Szd hT 1 [3,9,10,11] [(10,vi (ln r2)),(11,vi 0)] ?_
 refine WA_block ?_
 refine lK [3,9,10,11] [(8,8,1)] (fun k s=>∃ q,q ≤ k ∧ q ≤ n ∧ ∃ (l3 : List Stmt),∃ (i4 : Int),tree_copyBlock_L0 q a0 r1 r2 l3 i4 = some r ∧ s = ⟨[(3,.sl 8 1 0 (s_Stmt.F l3).length false),(9,.sl 8 1 0 (s_Stmt.F l3).length false),(10,vi (ln r2)),(11,vi i4)],[(8,rb 1 s_Stmt l3)],2⟩) n ⟨n,Nat.le_refl _,Nat.le_refl _,r2,0,h,rfl⟩ (by rintro s ⟨q,hq,_,l3,i4,h,_⟩; obtain rfl:=Nat.le_zero.1 hq; rw [tree_copyBlock_L0] at h; cases h) ?_
 clear h
 rintro k1 s ⟨q1,hk1,hn1,l3,i4,h,rfl⟩
 rcases q1 with _ | q1
 ·rw [tree_copyBlock_L0] at h; cases h
 rw [tree_copyBlock_L0] at h
 refine Qzd hT 1 [3,9,10,11,12] [(12,vb (decide (i4 < (ln r2))))] ?_
 refine WA_seq ?_
 refine Ci h (fun h=>?_) fun h=>?_
 ·refine WA_skip ?_
  refine WA_seq ?_
  refine WA_block ?_
  refine Qgd hT 1 [3,9,10,11,13] [(13,vi i4)] ?_
  obtain ⟨x5,hx5,h⟩:=bsome h
  refine One' hT rfl (v_index_own s_Stmt 8 1 false (rb 1 s_Stmt l3) l3 .i64 i4 hx5) ?_
  refine Sgd hT 0 [3,9,10,11,13,14] [(14,.box 8 1 i4.toNat 0)] ?_
  refine One' hT rfl (v_load_row s_Stmt 8 1 (rb 1 s_Stmt l3) l3 i4.toNat 0 x5 (eStmt x5) (idx_some hx5).2) ?_
  refine Szh hT 3 [3,4,5,9,10,11] [(4,vi i4),(5,bx 5 2)] [(5,cb 2 93 11 (eStmt x5)),(8,rb 1 s_Stmt l3)] 3 ?_
  refine Rgd hT 3 [3,9,10,11,16,17,18] [(16,.sl 8 1 0 (s_Stmt.F l3).length false),(17,vi i4),(18,eStmt x5)] ?_
  obtain ⟨r6,hr6,h⟩:=bsome h
  refine Pt' en64 ((ih _ (by omega)).2 hr6) ?_
  refine Sgd hT 0 [3,9,10,11,16,17,19] [(19,eStmt r6)] ?_
  obtain ⟨x7,hx7,h⟩:=bsome h
  refine One' hT rfl (v_index_own s_Stmt 8 1 false (rb 1 s_Stmt l3) l3 .i64 i4 hx7) ?_
  refine Sg hT 0 [3,9,10,11,19,20] ⟨[(3,.sl 8 1 0 (s_Stmt.F l3).length false),(9,.sl 8 1 0 (s_Stmt.F l3).length false),(10,vi (ln r2)),(11,vi i4),(19,eStmt r6),(20,.box 8 1 i4.toNat 0)],[(5,cb 2 93 11 (eStmt x5)),(8,rb 1 s_Stmt l3)],3⟩ ?_
  refine One' hT rfl (v_storeRow s_Stmt 8 1 (rb 1 s_Stmt l3) l3 i4.toNat 0 x7 r6 (idx_some hx7).2) ?_
  refine oW [3,9,10,11,19] ⟨[(3,.sl 8 1 0 (s_Stmt.F l3).length false),(9,.sl 8 1 0 (s_Stmt.F l3).length false),(10,vi (ln r2)),(11,vi i4),(19,eStmt r6)],[(8,rb 1 s_Stmt (l3.set i4.toNat r6)),(5,cb 2 93 11 (eStmt x5))],3⟩ ?_
  refine WO_weak (wL [(3,.sl 8 1 0 (s_Stmt.F (l3.set i4.toNat r6)).length false),(9,.sl 8 1 0 (s_Stmt.F (l3.set i4.toNat r6)).length false),(10,vi (ln r2)),(11,vi i4),(19,eStmt r6)] [(8,rb 1 s_Stmt (l3.set i4.toNat r6)),(5,cb 2 93 11 (eStmt x5))] ⟨(VLf.slen (by simp [TE.len,lcopy_length,rcopy_length,clr_length])),(VLf.slen (by simp [TE.len,lcopy_length,rcopy_length,clr_length])),VLf.refl _,VLf.refl _,VLf.refl _,trivial⟩ (HLe.refl _)) ?_
  refine Szh hT 0 [3,9,10,11] [] [(8,rb 1 s_Stmt (l3.set i4.toNat r6)),(5,cb 2 93 11 (eStmt x5))] 3 ?_
  refine Rgd hT 2 [3,9,10,11] [(11,vi (wr (i4 + 1)))] ?_
  exact oK [3,9,10,11] [(8,8,1)] ⟨_,by omega,by omega,l3.set i4.toNat r6,wr (i4 + 1),h,rfl⟩
 refine WA_exit ?_
 refine Qzd hT 2 [2] [(2,.sl 8 1 0 (s_Stmt.F l3).length false)] ?_
 obtain rfl:=Option.some.inj h
 exact rK [2] [(8,100,1)] ⟨[(2,.sl 100 1 0 (s_Stmt.F l3).length false)],[(100,rb 1 s_Stmt l3)],2⟩ ⟨by kernel_rfl,by kernel_rfl,rfl⟩
theorem tree_copyStmt_step (n : Nat) (ih : ∀ m,m < n → tree_copyBlock_spec m) : ∀ {a0 : Stmt} {r : Stmt},tree_copyStmt n a0 = some r → PT Try.prog 64 [eStmt a0] (eStmt r):=by
 intro a0 r h
 rcases n with _ | n
 ·rw [tree_copyStmt] at h; cases h
 rw [tree_copyStmt] at h
 refine PT_bodyA hT Try.func64 rfl (by kernel_rfl) fun bad w=>?_
 refine Qz hT 2 [1,2] ⟨[(1,bx 1 0),(2,bx 2 1)],[(2,cb 1 93 11 (.agg [vi 0,vw b0,vw b0,vi 0,vi 0,vi 0,vw b0,vn,vn,vn,vz c0])),(1,cb 0 93 11 (eStmt a0))],2⟩ ?_
 refine WA_seq ?_
 refine WA_drawW hT hM (by kernel_rfl) ?_
 refine Ds 2 [(4,eExpr a0.E),(3,.box 1 0 0 4)] [] [(0,[1]),(1,[1])] ?_
 obtain ⟨r1,hr1,h⟩:=bsome h
 refine Dp [eExpr a0.E] (eExpr r1) en82 (tree_copyExpr_ok hr1) ?_
 refine Ds 2 [(7,po s_Stmt a0.Body),(6,.box 1 0 0 8)] [] [(3,[1]),(4,[1])] ?_
 obtain ⟨r2,hr2,h⟩:=bsome h
 refine Dp [po s_Stmt a0.Body] (po s_Stmt r2) en83 (PT_of_GO ((ih _ (by omega)).1 hr2)) ?_
 refine Ds 2 [(10,po s_Stmt a0.Else),(9,.box 1 0 0 9)] [] [(6,[1]),(7,[1])] ?_
 obtain ⟨r3,hr3,h⟩:=bsome h
 refine Dp [po s_Stmt a0.Else] (po s_Stmt r3) en83 (PT_of_GO ((ih _ (by omega)).1 hr3)) ?_
 refine Dh 6 [(14,.box 1 0 0 9),(13,.box 1 0 0 8),(12,.box 1 0 0 4)] [(1,cb 0 93 11 (.agg [vi a0.Kind,vw a0.Name,vw a0.Other,vi a0.N,vi r1.Kind,vi r1.N,vw r1.Name,po s_Expr r1.Of,po s_Stmt r2,po s_Stmt r3,vz a0.At])),(2,cb 1 93 11 (.agg [vi 0,vw b0,vw b0,vi 0,vi 0,vi 0,vw b0,vn,vn,vn,vz c0]))] 2 [(10,[1]),(12,[1]),(14,[1])] [(9,[1]),(11,[1]),(13,[1])] ?_
 refine De ?_
 refine Wk_done ?_
 refine Qz hT 2 [2] ⟨[(2,bx 2 1)],[(2,cb 1 93 11 (.agg [vi a0.Kind,vw a0.Name,vw a0.Other,vi a0.N,vi r1.Kind,vi r1.N,vw r1.Name,po s_Expr r1.Of,po s_Stmt r2,po s_Stmt r3,vz a0.At])),(1,cb 0 93 11 (.agg [vi a0.Kind,vw a0.Name,vw a0.Other,vi a0.N,vi r1.Kind,vi r1.N,vw r1.Name,po s_Expr r1.Of,po s_Stmt r2,po s_Stmt r3,vz a0.At]))],2⟩ ?_
 refine aW [2] ⟨[(2,bx 2 1)],[(2,cb 1 93 11 (.agg [vi a0.Kind,vw a0.Name,vw a0.Other,vi a0.N,vi r1.Kind,vi r1.N,vw r1.Name,po s_Expr r1.Of,po s_Stmt r2,po s_Stmt r3,vz a0.At])),(1,cb 0 93 11 (.agg [vi a0.Kind,vw a0.Name,vw a0.Other,vi a0.N,vi r1.Kind,vi r1.N,vw r1.Name,po s_Expr r1.Of,po s_Stmt r2,po s_Stmt r3,vz a0.At]))],2⟩ ?_
 refine WA_weak (wL [(2,bx 2 1)] [(2,cb 1 93 11 (eStmt (Stmt.mk a0.Kind a0.Name a0.Other a0.N r1 r2 r3 a0.At))),(1,cb 0 93 11 (.agg [vi a0.Kind,vw a0.Name,vw a0.Other,vi a0.N,vi r1.Kind,vi r1.N,vw r1.Name,po s_Expr r1.Of,po s_Stmt r2,po s_Stmt r3,vz a0.At]))] ⟨VLf.refl _,trivial⟩ ⟨rfl,.inr (.inl ⟨rfl,rfl,CLe.agg ⟨VLf.refl _,VLf.refl _,VLf.refl _,VLf.refl _,VLf.refl _,VLf.refl _,VLf.refl _,VLf.refl _,VLf.refl _,VLf.refl _,VLf.refl _,trivial⟩,trivial⟩),rfl,.inl rfl,trivial⟩) ?_
 obtain rfl:=Option.some.inj h
 exact rR [(2,1000,0)] ⟨[(2,bx 1000 0)],[(1000,cb 0 93 11 (eStmt (Stmt.mk a0.Kind a0.Name a0.Other a0.N r1 r2 r3 a0.At)))],1⟩ ⟨by kernel_rfl,rfl⟩
theorem tree_copyBlock_all (n : Nat) : tree_copyBlock_spec n:=by
 induction n using Nat.strongRecOn with
 | _ n ih=>exact ⟨tree_copyBlock_step n ih,tree_copyStmt_step n ih⟩
theorem tree_copyStmt_ok {n : Nat} {a0 : Stmt} {r : Stmt} (h : tree_copyStmt n a0 = some r) : PT Try.prog 64 [eStmt a0] (eStmt r):=(tree_copyBlock_all n).2 h
theorem Clip_Stmt_ok {n : Nat} {a0 : List Stmt} {r : List Stmt} (h : Clip_Stmt n a0 = some r) : PT Try.prog 65 [po s_Stmt a0] (.ps .fopt (s_Stmt.F r)):=by
 unfold Clip_Stmt at h
 refine PT_bodyA hT Try.func65 rfl (by kernel_rfl) fun bad w=>?_
 refine Qzd hT 1 [0] [] ?_
 refine Qgd hT 2 [0,3,4] [(3,po s_Stmt a0),(4,po s_Stmt a0)] ?_
 refine One' hT rfl (v_len s_Stmt .opt a0) ?_
 refine Sgd hT 1 [3,5,6] [(5,vi (ln a0)),(6,po s_Stmt a0)] ?_
 refine One' hT rfl (v_len s_Stmt .opt a0) ?_
 refine Sgd hT 0 [3,5,7] [(7,vi (ln a0))] ?_
 obtain ⟨l1,hl1,h⟩:=bsome h
 refine One' hT rfl (v_slice s_Stmt .opt a0 0 (ln a0) (some (ln a0)) l1 .fopt hl1 (by intro y hy; cases hy; rfl)) ?_
 refine Sz hT 1 [2] ⟨[(2,.ps .fopt (s_Stmt.F l1))],[],0⟩ ?_
 obtain rfl:=Option.some.inj h
 exact rK [2] [] ⟨[(2,.ps .fopt (s_Stmt.F l1))],[],1⟩ ⟨by kernel_rfl,rfl⟩
theorem tree_List_ok {n : Nat} {a0 : Prog} {r : List Stmt} (h : tree_List n a0 = some r) : PT Try.prog 43 [eProg a0] (.ps .fopt (s_Stmt.F r)):=by
 unfold tree_List at h
 refine PT_bodyA hT Try.func43 rfl (by kernel_rfl) fun bad w=>?_
 refine Qz hT 2 [1] ⟨[(1,bx 1 0)],[(1,cb 0 26 2 (eProg a0))],1⟩ ?_
 refine Qzd hT 1 [1,3] [(3,vn)] ?_
 refine WA_seq ?_
 refine Qgd hT 2 [3,9] [(9,po s_LStmt a0.Threads)] ?_
 refine One' hT rfl (v_len s_LStmt .opt a0.Threads) ?_
 refine Szd hT 1 [3,9,10,11] [(10,vi (ln a0.Threads)),(11,vi 0)] ?_
 refine WA_block ?_
 refine aW [3,9,10,11] ⟨[(3,vn),(9,po s_LStmt a0.Threads),(10,vi (ln a0.Threads)),(11,vi 0)],[(1,cb 0 26 2 (eProg a0))],1⟩ ?_
 refine WA_weak (wO 3 5000 93 11) ?_
 refine lK [3,9,10,11] [(5000,10003,0)] (fun k s=>∃ q,q ≤ k ∧ q ≤ n ∧ ∃ (l1 : List Stmt),∃ (i2 : Int),tree_List_L0 q a0 l1 i2 = some r ∧ s = ⟨[(3,vs 10003 0 s_Stmt l1),(9,po s_LStmt a0.Threads),(10,vi (ln a0.Threads)),(11,vi i2)],[(10003,rb 0 s_Stmt l1)],1⟩) n ⟨n,Nat.le_refl _,Nat.le_refl _,([] : List Stmt),0,h,rfl⟩ (by rintro s ⟨q,hq,_,l1,i2,h,_⟩; obtain rfl:=Nat.le_zero.1 hq; rw [tree_List_L0] at h; cases h) ?_
 clear h
 rintro k1 s ⟨q1,hk1,hn1,l1,i2,h,rfl⟩
 rcases q1 with _ | q1
 ·rw [tree_List_L0] at h; cases h
 rw [tree_List_L0] at h
 refine Qzd hT 1 [3,9,10,11,12] [(12,vb (decide (i2 < (ln a0.Threads))))] ?_
 refine WA_seq ?_
 refine Ci h (fun h=>?_) fun h=>?_
 ·refine WA_skip ?_
  refine WA_seq ?_
  refine WA_block ?_
  refine Qgd hT 0 [3,9,10,11] [] ?_
  obtain ⟨x3,hx3,h⟩:=bsome h
  refine One' hT rfl (v_index s_LStmt .opt a0.Threads .i64 i2 hx3) ?_
  refine Sz hT 2 [3,5,9,10,11] ⟨[(3,vs 10003 0 s_Stmt l1),(5,po s_Stmt x3),(9,po s_LStmt a0.Threads),(10,vi (ln a0.Threads)),(11,vi i2)],[(10003,rb 0 s_Stmt l1)],1⟩ ?_
  refine Rgd hT 2 [9,10,11,15,16] [(15,vs 10003 0 s_Stmt l1),(16,po s_Stmt x3)] ?_
  obtain ⟨r4,hr4,h⟩:=bsome h
  refine Og [(0,rb 0 s_Stmt l1)] [(100,rb 1 s_Stmt r4)] [vs 10003 0 s_Stmt l1,po s_Stmt x3] [vs 0 0 s_Stmt l1,po s_Stmt x3] [(10003,0,0)] [(100,17,1)] [(17,rb 1 s_Stmt r4)] (vs 100 1 s_Stmt r4) (vs 17 1 s_Stmt r4) 2 en63 (tree_listed_o_ok hr4) ?_
  refine Szh hT 1 [3,9,10,11] [(3,vs 17 1 s_Stmt r4)] [(17,rb 1 s_Stmt r4)] 2 ?_
  refine Rgd hT 2 [3,9,10,11] [(11,vi (wr (i2 + 1)))] ?_
  exact oK [3,9,10,11] [(17,10003,0)] ⟨_,by omega,by omega,r4,wr (i2 + 1),h,rfl⟩
 refine WA_exit ?_
 refine WA_seq ?_
 refine Qgd hT 1 [3,19] [(19,vs 10003 0 s_Stmt l1)] ?_
 refine One' hT rfl (v_len_own s_Stmt 10003 0 true (rb 0 s_Stmt l1) l1) ?_
 refine Szd hT 1 [3,19,20,21] [(20,vi (ln l1)),(21,vi 0)] ?_
 refine WA_block ?_
 refine lK [3,19,20,21] [(10003,10003,0)] (fun k s=>∃ q,q ≤ k ∧ q ≤ q1 ∧ ∃ (l5 : List Stmt),∃ (i6 : Int),tree_List_L1 q a0 l1 i2 l5 i6 = some r ∧ s = ⟨[(3,vs 10003 0 s_Stmt l5),(19,vs 10003 0 s_Stmt l5),(20,vi (ln l1)),(21,vi i6)],[(10003,rb 0 s_Stmt l5)],1⟩) q1 ⟨q1,Nat.le_refl _,Nat.le_refl _,l1,0,h,rfl⟩ (by rintro s ⟨q,hq,_,l5,i6,h,_⟩; obtain rfl:=Nat.le_zero.1 hq; rw [tree_List_L1] at h; cases h) ?_
 clear h
 rintro k2 s ⟨q2,hk2,hn2,l5,i6,h,rfl⟩
 rcases q2 with _ | q2
 ·rw [tree_List_L1] at h; cases h
 rw [tree_List_L1] at h
 refine Qzd hT 1 [3,19,20,21,22] [(22,vb (decide (i6 < (ln l1))))] ?_
 refine WA_seq ?_
 refine Ci h (fun h=>?_) fun h=>?_
 ·refine WA_skip ?_
  refine WA_seq ?_
  refine WA_block ?_
  refine Qgd hT 1 [3,19,20,21,23] [(23,vi i6)] ?_
  obtain ⟨x7,hx7,h⟩:=bsome h
  refine One' hT rfl (v_index_own s_Stmt 10003 0 true (rb 0 s_Stmt l5) l5 .i64 i6 hx7) ?_
  refine Sgd hT 0 [3,19,20,21,23,24] [(24,.box 10003 0 i6.toNat 0)] ?_
  refine One' hT rfl (v_load_row s_Stmt 10003 0 (rb 0 s_Stmt l5) l5 i6.toNat 0 x7 (eStmt x7) (idx_some hx7).2) ?_
  refine Sz hT 3 [3,6,7,19,20,21] ⟨[(3,vs 10003 0 s_Stmt l5),(6,vi i6),(7,bx 7 1),(19,vs 10003 0 s_Stmt l5),(20,vi (ln l1)),(21,vi i6)],[(7,cb 1 93 11 (eStmt x7)),(10003,rb 0 s_Stmt l5)],2⟩ ?_
  refine Rgd hT 3 [3,19,20,21,26,27,28] [(26,vs 10003 0 s_Stmt l5),(27,vi i6),(28,eStmt x7)] ?_
  obtain ⟨r8,hr8,h⟩:=bsome h
  refine Pt' en64 (tree_copyStmt_ok hr8) ?_
  refine Sgd hT 0 [3,19,20,21,26,27,29] [(29,eStmt r8)] ?_
  obtain ⟨x9,hx9,h⟩:=bsome h
  refine One' hT rfl (v_index_own s_Stmt 10003 0 true (rb 0 s_Stmt l5) l5 .i64 i6 hx9) ?_
  refine Sgd hT 0 [3,19,20,21,29,30] [(30,.box 10003 0 i6.toNat 0)] ?_
  refine One' hT rfl (v_storeRow s_Stmt 10003 0 (rb 0 s_Stmt l5) l5 i6.toNat 0 x9 r8 (idx_some hx9).2) ?_
  refine oW [3,19,20,21,29] ⟨[(3,vs 10003 0 s_Stmt l5),(19,vs 10003 0 s_Stmt l5),(20,vi (ln l1)),(21,vi i6),(29,eStmt r8)],[(10003,rb 0 s_Stmt (l5.set i6.toNat r8)),(7,cb 1 93 11 (eStmt x7))],2⟩ ?_
  refine WO_weak (wL [(3,vs 10003 0 s_Stmt (l5.set i6.toNat r8)),(19,vs 10003 0 s_Stmt (l5.set i6.toNat r8)),(20,vi (ln l1)),(21,vi i6),(29,eStmt r8)] [(10003,rb 0 s_Stmt (l5.set i6.toNat r8)),(7,cb 1 93 11 (eStmt x7))] ⟨(VLf.slen (by simp [TE.len,lcopy_length,rcopy_length,clr_length])),(VLf.slen (by simp [TE.len,lcopy_length,rcopy_length,clr_length])),VLf.refl _,VLf.refl _,VLf.refl _,trivial⟩ (HLe.refl _)) ?_
  refine Szh hT 0 [3,19,20,21] [] [(10003,rb 0 s_Stmt (l5.set i6.toNat r8)),(7,cb 1 93 11 (eStmt x7))] 2 ?_
  refine Rgd hT 2 [3,19,20,21] [(21,vi (wr (i6 + 1)))] ?_
  exact oK [3,19,20,21] [(10003,10003,0)] ⟨_,by omega,by omega,l5.set i6.toNat r8,wr (i6 + 1),h,rfl⟩
 refine WA_exit ?_
 refine Qgd hT 1 [32] [(32,vs 10003 0 s_Stmt l5)] ?_
 refine WO_weak (wF 10003 0 (rb 0 s_Stmt l5) [(32,po s_Stmt l5)] [] ⟨rfl,.hit true,trivial⟩ trivial) ?_
 obtain ⟨r10,hr10,h⟩:=bsome h
 refine Pt' en65 (Clip_Stmt_ok hr10) ?_
 refine Sz hT 1 [2] ⟨[(2,.ps .fopt (s_Stmt.F r10))],[],1⟩ ?_
 obtain rfl:=Option.some.inj h
 exact rK [2] [] ⟨[(2,.ps .fopt (s_Stmt.F r10))],[],1⟩ ⟨by kernel_rfl,rfl⟩
theorem Clip_string_ok {n : Nat} {a0 : List ByteArray} {r : List ByteArray} (h : Clip_string n a0 = some r) : PT Try.prog 86 [po s_string a0] (.ps .fopt (s_string.F r)):=by
 unfold Clip_string at h
 refine PT_bodyA hT Try.func86 rfl (by kernel_rfl) fun bad w=>?_
 refine Qzd hT 1 [0] [] ?_
 refine Qgd hT 2 [0,3,4] [(3,po s_string a0),(4,po s_string a0)] ?_
 refine One' hT rfl (v_len s_string .opt a0) ?_
 refine Sgd hT 1 [3,5,6] [(5,vi (ln a0)),(6,po s_string a0)] ?_
 refine One' hT rfl (v_len s_string .opt a0) ?_
 refine Sgd hT 0 [3,5,7] [(7,vi (ln a0))] ?_
 obtain ⟨l1,hl1,h⟩:=bsome h
 refine One' hT rfl (v_slice s_string .opt a0 0 (ln a0) (some (ln a0)) l1 .fopt hl1 (by intro y hy; cases hy; rfl)) ?_
 refine Sz hT 1 [2] ⟨[(2,.ps .fopt (s_string.F l1))],[],0⟩ ?_
 obtain rfl:=Option.some.inj h
 exact rK [2] [] ⟨[(2,.ps .fopt (s_string.F l1))],[],1⟩ ⟨by kernel_rfl,rfl⟩
def tree_Names_spec (n : Nat) : Prop:=(∀ {a0 : Expr} {r : List ByteArray},tree_Names n a0 = some r → PT Try.prog 85 [eExpr a0] (.ps .fopt (s_string.F r)))
theorem tree_Names_step (n : Nat) (ih : ∀ m,m < n → tree_Names_spec m) : ∀ {a0 : Expr} {r : List ByteArray},tree_Names n a0 = some r → PT Try.prog 85 [eExpr a0] (.ps .fopt (s_string.F r)):=by
 intro a0 r h
 rcases n with _ | n
 ·rw [tree_Names] at h; cases h
 rw [tree_Names] at h
 refine PT_bodyA hT Try.func85 rfl (by kernel_rfl) fun bad w=>?_
 refine Qz hT 2 [1] ⟨[(1,bx 1 0)],[(1,cb 0 91 4 (eExpr a0))],1⟩ ?_
 refine Qzd hT 1 [1,3] [(3,vn)] ?_
 refine WA_seq ?_
 refine Qzd hT 3 [1,3,8] [(8,vb (a0.Kind == 2))] ?_
 obtain ⟨J2,hJ2,h⟩:=jsome h
 refine WA_join (fun s=>∃ (l1 : List ByteArray),J2 l1 = some r ∧ s = ⟨[(1,bx 1 0),(3,vs 10003 0 s_string l1)],[(1,cb 0 91 4 (eExpr a0)),(10003,rb 0 s_string l1)],1⟩) ?_ ?_
 ·refine Ci h (fun h=>?_) fun h=>?_
  ·refine Rg hT 4 [1,9,12] ⟨[(1,bx 1 0),(9,vn),(12,vs 12 1 s_string [a0.Name])],[(12,⟨1,9,1,false,false,s_string.F [a0.Name]⟩),(1,cb 0 91 4 (eExpr a0))],2⟩ ?_
   refine WO_weak (wO 9 6013 9 1) ?_
   obtain ⟨g3,h⟩:=gsome h
   refine Oa hT s_string 6013 2 true ([] : List ByteArray) [a0.Name] (eO s_string 12 1 true ⟨1,9,1,false,false,s_string.F [a0.Name]⟩ [a0.Name]) g3 ?_
   refine Sg hT 1 [1,3] ⟨[(1,bx 1 0),(3,vs 13 3 s_string (([] : List ByteArray) ++ [a0.Name]))],[(13,rb 3 s_string (([] : List ByteArray) ++ [a0.Name])),(12,⟨1,9,1,false,false,s_string.F [a0.Name]⟩),(1,cb 0 91 4 (eExpr a0))],4⟩ ?_
   exact oK [1,3] [(1,1,0),(13,10003,0)] ⟨([] : List ByteArray) ++ [a0.Name],h,rfl⟩
  refine aW [1,3] ⟨[(1,bx 1 0),(3,vn)],[(1,cb 0 91 4 (eExpr a0))],1⟩ ?_
  refine WA_weak (wO 3 5000 9 1) ?_
  exact sK [1,3] [(1,1,0),(5000,10003,0)] ⟨([] : List ByteArray),h,rfl⟩
 subst hJ2
 rintro s ⟨l1,h,rfl⟩
 refine WA_seq ?_
 refine Qgd hT 2 [3,15] [(15,po s_Expr a0.Of)] ?_
 refine One' hT rfl (v_len s_Expr .opt a0.Of) ?_
 refine Szd hT 1 [3,15,16,17] [(16,vi (ln a0.Of)),(17,vi 0)] ?_
 refine WA_block ?_
 refine lK [3,15,16,17] [(10003,10003,0)] (fun k s=>∃ q,q ≤ k ∧ q ≤ n ∧ ∃ (l4 : List ByteArray),∃ (i5 : Int),tree_Names_L0 q a0 l1 l4 i5 = some r ∧ s = ⟨[(3,vs 10003 0 s_string l4),(15,po s_Expr a0.Of),(16,vi (ln a0.Of)),(17,vi i5)],[(10003,rb 0 s_string l4)],1⟩) n ⟨n,Nat.le_refl _,Nat.le_refl _,l1,0,h,rfl⟩ (by rintro s ⟨q,hq,_,l4,i5,h,_⟩; obtain rfl:=Nat.le_zero.1 hq; rw [tree_Names_L0] at h; cases h) ?_
 clear h
 rintro k1 s ⟨q1,hk1,hn1,l4,i5,h,rfl⟩
 rcases q1 with _ | q1
 ·rw [tree_Names_L0] at h; cases h
 rw [tree_Names_L0] at h
 refine Qzd hT 1 [3,15,16,17,18] [(18,vb (decide (i5 < (ln a0.Of))))] ?_
 refine WA_seq ?_
 refine Ci h (fun h=>?_) fun h=>?_
 ·refine WA_skip ?_
  refine WA_seq ?_
  refine WA_block ?_
  refine Qg hT 0 [3,15,16,17] ⟨[(3,vs 10003 0 s_string l4),(15,po s_Expr a0.Of),(16,vi (ln a0.Of)),(17,vi i5)],[(10003,rb 0 s_string l4)],1⟩ ?_
  obtain ⟨x6,hx6,h⟩:=bsome h
  refine One' hT rfl (v_index s_Expr .opt a0.Of .i64 i5 hx6) ?_
  refine Szh hT 3 [3,5,15,16,17] [(5,bx 5 1)] [(5,cb 1 91 4 (eExpr x6)),(10003,rb 0 s_string l4)] 2 ?_
  refine Rgd hT 2 [15,16,17,21,22] [(21,vs 10003 0 s_string l4),(22,eExpr x6)] ?_
  obtain ⟨r7,hr7,h⟩:=bsome h
  refine Pt' en85 ((ih _ (by omega)) hr7) ?_
  refine Sgd hT 0 [15,16,17,21,23] [(23,.ps .fopt (s_string.F r7))] ?_
  obtain ⟨g8,h⟩:=gsome h
  refine Oa hT s_string 10003 0 true l4 r7 (by kernel_rfl) g8 ?_
  refine Szh hT 1 [3,15,16,17] [(3,vs 24 2 s_string (l4 ++ r7))] [(24,rb 2 s_string (l4 ++ r7)),(5,cb 1 91 4 (eExpr x6))] 3 ?_
  refine Rgd hT 2 [3,15,16,17] [(17,vi (wr (i5 + 1)))] ?_
  exact oK [3,15,16,17] [(24,10003,0)] ⟨_,by omega,by omega,l4 ++ r7,wr (i5 + 1),h,rfl⟩
 refine WA_exit ?_
 refine Qgd hT 1 [26] [(26,vs 10003 0 s_string l4)] ?_
 refine WO_weak (wF 10003 0 (rb 0 s_string l4) [(26,po s_string l4)] [] ⟨rfl,.hit true,trivial⟩ trivial) ?_
 obtain ⟨r9,hr9,h⟩:=bsome h
 refine Pt' en86 (Clip_string_ok hr9) ?_
 refine Sz hT 1 [2] ⟨[(2,.ps .fopt (s_string.F r9))],[],1⟩ ?_
 obtain rfl:=Option.some.inj h
 exact rK [2] [] ⟨[(2,.ps .fopt (s_string.F r9))],[],1⟩ ⟨by kernel_rfl,rfl⟩
theorem tree_Names_all (n : Nat) : tree_Names_spec n:=by
 induction n using Nat.strongRecOn with
 | _ n ih=>exact tree_Names_step n ih
theorem tree_Names_ok {n : Nat} {a0 : Expr} {r : List ByteArray} (h : tree_Names n a0 = some r) : PT Try.prog 85 [eExpr a0] (.ps .fopt (s_string.F r)):=(tree_Names_all n) h
theorem tree_Touches_ok {n : Nat} {a0 : Stmt} {r : List ByteArray} (h : tree_Touches n a0 = some r) : PT Try.prog 67 [eStmt a0] (.ps .fopt (s_string.F r)):=by
 unfold tree_Touches at h
 refine PT_bodyA hT Try.func67 rfl (by kernel_rfl) fun bad w=>?_
 refine Qz hT 2 [1] ⟨[(1,bx 1 0)],[(1,cb 0 93 11 (eStmt a0))],1⟩ ?_
 refine Qzd hT 1 [1,3] [(3,vn)] ?_
 refine WA_seq ?_
 refine Qzd hT 2 [1,3,5] [(5,vi a0.Kind)] ?_
 obtain ⟨J2,hJ2,h⟩:=jsome h
 refine WA_join (fun s=>∃ (l1 : List ByteArray),J2 l1 = some r ∧ s = ⟨[(1,bx 1 0),(3,.ps .fopt (s_string.F l1))],[(1,cb 0 93 11 (eStmt a0))],1⟩) ?_ ?_
 ·refine WA_block ?_
  refine WA_seq ?_
  refine Qzd hT 2 [1,3,5,6] [(6,vb (a0.Kind == 1))] ?_
  obtain ⟨J4,hJ4,h⟩:=jsome h
  refine WA_join (fun s=>∃ (b3 : Bool),J4 b3 = some r ∧ s = ⟨[(1,bx 1 0),(3,vn),(6,vb b3)],[(1,cb 0 93 11 (eStmt a0))],1⟩) ?_ ?_
  ·refine Ci h (fun h=>?_) fun h=>?_
   ·exact sK [1,3,6] [(1,1,0)] ⟨(a0.Kind == 1),h,rfl⟩
   refine Qzd hT 2 [1,3,5,6] [(6,vb (a0.Kind == 4))] ?_
   refine Ci h (fun h=>?_) fun h=>?_
   ·exact sK [1,3,6] [(1,1,0)] ⟨(a0.Kind == 4),h,rfl⟩
   refine Qzd hT 2 [1,3,5,6] [(6,vb (a0.Kind == 6))] ?_
   refine Ci h (fun h=>?_) fun h=>?_
   ·exact sK [1,3,6] [(1,1,0)] ⟨(a0.Kind == 6),h,rfl⟩
   refine Rg hT 2 [1,3,6] ⟨[(1,bx 1 0),(3,vn),(6,vb (a0.Kind == 7))],[(1,cb 0 93 11 (eStmt a0))],1⟩ ?_
   exact oK [1,3,6] [(1,1,0)] ⟨(a0.Kind == 7),h,rfl⟩
  subst hJ4
  rintro s ⟨b3,h,rfl⟩
  skip
  refine Ci h (fun h=>?_) fun h=>?_
  ·refine Rgd hT 2 [1,12] [(12,eExpr a0.E)] ?_
   obtain ⟨r5,hr5,h⟩:=bsome h
   refine Pt' en85 (tree_Names_ok hr5) ?_
   refine Sgd hT 1 [1,3] [(3,.ps .fopt (s_string.F r5))] ?_
   exact oK [1,3] [(1,1,0)] ⟨r5,h,rfl⟩
  refine aW [1,3] ⟨[(1,bx 1 0),(3,vn)],[(1,cb 0 93 11 (eStmt a0))],1⟩ ?_
  refine WA_weak (wL [(1,bx 1 0),(3,.ps .fopt (s_string.F []))] [(1,cb 0 93 11 (eStmt a0))] ⟨VLf.refl _,(VLe.f VLe.nil_fopt rfl),trivial⟩ ⟨rfl,.inl rfl,trivial⟩) ?_
  exact sR [(1,1,0)] ⟨[],h,rfl⟩
 subst hJ2
 rintro s ⟨l1,h,rfl⟩
 refine WA_seq ?_
 refine Qzd hT 2 [1,3,15] [(15,vi a0.Kind)] ?_
 obtain ⟨J7,hJ7,h⟩:=jsome h
 refine WA_join (fun s=>∃ (l6 : List ByteArray),J7 l6 = some r ∧ s = ⟨[(3,po s_string l6)],[],1⟩) ?_ ?_
 ·refine WA_block ?_
  refine Qzd hT 2 [1,3,15,16] [(16,vb (a0.Kind == 1))] ?_
  refine Ci h (fun h=>?_) fun h=>?_
  ·refine Rg hT 4 [18,21] ⟨[(18,.ps .fopt (s_string.F l1)),(21,vs 21 1 s_string [a0.Name])],[(21,⟨1,9,1,false,false,s_string.F [a0.Name]⟩),(1,cb 0 93 11 (eStmt a0))],2⟩ ?_
   obtain ⟨g8,h⟩:=gsome h
   refine One' hT rfl (ev_appendF s_string .fopt l1 [a0.Name] (by decide) (by kernel_rfl) (eO s_string 21 1 true ⟨1,9,1,false,false,s_string.F [a0.Name]⟩ [a0.Name]) (by simp) g8) ?_
   refine Sg hT 1 [3] ⟨[(3,vs 22 2 s_string (l1 ++ [a0.Name]))],[(22,⟨2,9,1,false,false,s_string.F (l1 ++ [a0.Name])⟩),(21,⟨1,9,1,false,false,s_string.F [a0.Name]⟩),(1,cb 0 93 11 (eStmt a0))],3⟩ ?_
   refine oW [3] ⟨[(3,vs 22 2 s_string (l1 ++ [a0.Name]))],[(22,⟨2,9,1,false,false,s_string.F (l1 ++ [a0.Name])⟩),(21,⟨1,9,1,false,false,s_string.F [a0.Name]⟩),(1,cb 0 93 11 (eStmt a0))],3⟩ ?_
   refine WO_weak (wF 22 2 ⟨2,9,1,false,false,s_string.F (l1 ++ [a0.Name])⟩ [(3,po s_string (l1 ++ [a0.Name]))] [(21,⟨1,9,1,false,false,s_string.F [a0.Name]⟩),(1,cb 0 93 11 (eStmt a0))] ⟨rfl,.hit true,trivial⟩ ⟨rfl,.inl rfl,rfl,.inl rfl,trivial⟩) ?_
   exact oR [] ⟨l1 ++ [a0.Name],h,rfl⟩
  refine Qzd hT 2 [1,3,23] [(23,vb (a0.Kind == 5))] ?_
  refine Ci h (fun h=>?_) fun h=>?_
  ·refine Rg hT 4 [25,28] ⟨[(25,.ps .fopt (s_string.F l1)),(28,vs 28 1 s_string [a0.Other])],[(28,⟨1,9,1,false,false,s_string.F [a0.Other]⟩),(1,cb 0 93 11 (eStmt a0))],2⟩ ?_
   obtain ⟨g9,h⟩:=gsome h
   refine One' hT rfl (ev_appendF s_string .fopt l1 [a0.Other] (by decide) (by kernel_rfl) (eO s_string 28 1 true ⟨1,9,1,false,false,s_string.F [a0.Other]⟩ [a0.Other]) (by simp) g9) ?_
   refine Sg hT 1 [3] ⟨[(3,vs 29 2 s_string (l1 ++ [a0.Other]))],[(29,⟨2,9,1,false,false,s_string.F (l1 ++ [a0.Other])⟩),(28,⟨1,9,1,false,false,s_string.F [a0.Other]⟩),(1,cb 0 93 11 (eStmt a0))],3⟩ ?_
   refine oW [3] ⟨[(3,vs 29 2 s_string (l1 ++ [a0.Other]))],[(29,⟨2,9,1,false,false,s_string.F (l1 ++ [a0.Other])⟩),(28,⟨1,9,1,false,false,s_string.F [a0.Other]⟩),(1,cb 0 93 11 (eStmt a0))],3⟩ ?_
   refine WO_weak (wF 29 2 ⟨2,9,1,false,false,s_string.F (l1 ++ [a0.Other])⟩ [(3,po s_string (l1 ++ [a0.Other]))] [(28,⟨1,9,1,false,false,s_string.F [a0.Other]⟩),(1,cb 0 93 11 (eStmt a0))] ⟨rfl,.hit true,trivial⟩ ⟨rfl,.inl rfl,rfl,.inl rfl,trivial⟩) ?_
   exact oR [] ⟨l1 ++ [a0.Other],h,rfl⟩
  refine aW [3] ⟨[(3,.ps .fopt (s_string.F l1))],[(1,cb 0 93 11 (eStmt a0))],1⟩ ?_
  refine WA_weak (wL [(3,po s_string l1)] [(1,cb 0 93 11 (eStmt a0))] ⟨(VLe.f VLe.fopt_opt rfl),trivial⟩ ⟨rfl,.inl rfl,trivial⟩) ?_
  exact sR [] ⟨l1,h,rfl⟩
 subst hJ7
 rintro s ⟨l6,h,rfl⟩
 refine Qg hT 1 [30] ⟨[(30,po s_string l6)],[],1⟩ ?_
 obtain ⟨r10,hr10,h⟩:=bsome h
 refine Pt' en86 (Clip_string_ok hr10) ?_
 refine Sz hT 1 [2] ⟨[(2,.ps .fopt (s_string.F r10))],[],1⟩ ?_
 obtain rfl:=Option.some.inj h
 exact rK [2] [] ⟨[(2,.ps .fopt (s_string.F r10))],[],1⟩ ⟨by kernel_rfl,rfl⟩
theorem Index_string_ok {n : Nat} {a0 : List ByteArray} {a1 : ByteArray} {r : Int} (h : Index_string n a0 a1 = some r) : PT Try.prog 87 [po s_string a0,vw a1] (vi r):=by
 unfold Index_string at h
 refine PT_bodyA hT Try.func87 rfl (by kernel_rfl) fun bad w=>?_
 refine Qzd hT 1 [0,1] [] ?_
 refine WA_seq ?_
 refine Qgd hT 1 [0,1,6] [(6,po s_string a0)] ?_
 refine One' hT rfl (v_len s_string .opt a0) ?_
 refine Szd hT 1 [0,1,7,8] [(7,vi (ln a0)),(8,vi 0)] ?_
 refine WA_block ?_
 refine lK [0,1,7,8] [] (fun k s=>∃ q,q ≤ k ∧ q ≤ n ∧ ∃ (i1 : Int),Index_string_L0 q a0 a1 i1 = some r ∧ s = ⟨[(0,po s_string a0),(1,vw a1),(7,vi (ln a0)),(8,vi i1)],[],1⟩) n ⟨n,Nat.le_refl _,Nat.le_refl _,0,h,rfl⟩ (by rintro s ⟨q,hq,_,i1,h,_⟩; obtain rfl:=Nat.le_zero.1 hq; rw [Index_string_L0] at h; cases h) ?_
 clear h
 rintro k1 s ⟨q1,hk1,hn1,i1,h,rfl⟩
 rcases q1 with _ | q1
 ·rw [Index_string_L0] at h; cases h
 rw [Index_string_L0] at h
 refine Qzd hT 1 [0,1,7,8,9] [(9,vb (decide (i1 < (ln a0))))] ?_
 refine WA_seq ?_
 refine Ci h (fun h=>?_) fun h=>?_
 ·refine WA_skip ?_
  refine WA_seq ?_
  refine WA_block ?_
  refine Qzd hT 2 [0,1,5,7,8] [(5,vi i1)] ?_
  refine Qgd hT 3 [0,1,5,7,8,11,12,13] [(11,vw a1),(12,po s_string a0),(13,vi i1)] ?_
  obtain ⟨x2,hx2,h⟩:=bsome h
  refine One' hT rfl (v_index s_string .opt a0 .i64 i1 hx2) ?_
  refine Szd hT 2 [0,1,5,7,8,16] [(16,vb (bytesEq a1 x2))] ?_
  refine Ci h (fun h=>?_) fun h=>?_
  ·refine Qz hT 2 [4] ⟨[(4,vi i1)],[],1⟩ ?_
   obtain rfl:=Option.some.inj h
   exact rK [4] [] ⟨[(4,vi i1)],[],1⟩ ⟨by kernel_rfl,rfl⟩
  refine WA_skip ?_
  refine Rgd hT 2 [0,1,7,8] [(8,vi (wr (i1 + 1)))] ?_
  exact oK [0,1,7,8] [] ⟨_,by omega,by omega,wr (i1 + 1),h,rfl⟩
 refine WA_exit ?_
 refine Qz hT 1 [4] ⟨[(4,vi (-1))],[],1⟩ ?_
 obtain rfl:=Option.some.inj h
 exact rK [4] [] ⟨[(4,vi (-1))],[],1⟩ ⟨by kernel_rfl,rfl⟩
theorem Contains_string_ok {n : Nat} {a0 : List ByteArray} {a1 : ByteArray} {r : Bool} (h : Contains_string n a0 a1 = some r) : PT Try.prog 69 [po s_string a0,vw a1] (vb r):=by
 unfold Contains_string at h
 refine PT_bodyA hT Try.func69 rfl (by kernel_rfl) fun bad w=>?_
 refine Qzd hT 1 [0,1] [] ?_
 refine Qg hT 2 [5,6] ⟨[(5,po s_string a0),(6,vw a1)],[],0⟩ ?_
 obtain ⟨r1,hr1,h⟩:=bsome h
 refine Pt' en87 (Index_string_ok hr1) ?_
 refine Sz hT 2 [4] ⟨[(4,vb (decide (r1 ≥ 0)))],[],0⟩ ?_
 obtain rfl:=Option.some.inj h
 exact rK [4] [] ⟨[(4,vb (decide (r1 ≥ 0)))],[],1⟩ ⟨by kernel_rfl,rfl⟩
theorem cost_touches_1_ok {n : Nat} {a0 : ByteArray} {a1 : List ByteArray} {r : Bool} (h : cost_touches_1 n a0 a1 = some r) : PT Try.prog 68 [vw a0,.ref (el_string a1) 0] (vb r):=by
 unfold cost_touches_1 at h
 refine PT_bodyA hT Try.func68 rfl (by kernel_rfl) fun bad w=>?_
 refine Qzd hT 1 [0,1] [] ?_
 refine Qg hT 2 [4,5] ⟨[(4,po s_string a1),(5,vw a0)],[],0⟩ ?_
 obtain ⟨r1,hr1,h⟩:=bsome h
 refine Pt' en69 (Contains_string_ok hr1) ?_
 refine Sz hT 1 [3] ⟨[(3,vb r1)],[],0⟩ ?_
 obtain rfl:=Option.some.inj h
 exact rK [3] [] ⟨[(3,vb r1)],[],1⟩ ⟨by kernel_rfl,rfl⟩
theorem IndexFunc_string_fcost_touches_1_ok {n : Nat} {a0 : List ByteArray} {a1c0 : List ByteArray} {r : Int} (h : IndexFunc_string_fcost_touches_1 n a0 a1c0 = some r) : PT Try.prog 84 [po s_string a0,.fn 68 [] [.ref (el_string a1c0) 0]] (vi r):=by
 unfold IndexFunc_string_fcost_touches_1 at h
 refine PT_bodyA hT Try.func84 rfl (by kernel_rfl) fun bad w=>?_
 refine Qzd hT 1 [0,1] [] ?_
 refine WA_seq ?_
 refine Qgd hT 1 [0,1,6] [(6,po s_string a0)] ?_
 refine One' hT rfl (v_len s_string .opt a0) ?_
 refine Szd hT 1 [0,1,7,8] [(7,vi (ln a0)),(8,vi 0)] ?_
 refine WA_block ?_
 refine lK [0,1,7,8] [] (fun k s=>∃ q,q ≤ k ∧ q ≤ n ∧ ∃ (i1 : Int),IndexFunc_string_fcost_touches_1_L0 q a0 a1c0 i1 = some r ∧ s = ⟨[(0,po s_string a0),(1,.fn 68 [] [.ref (el_string a1c0) 0]),(7,vi (ln a0)),(8,vi i1)],[],1⟩) n ⟨n,Nat.le_refl _,Nat.le_refl _,0,h,rfl⟩ (by rintro s ⟨q,hq,_,i1,h,_⟩; obtain rfl:=Nat.le_zero.1 hq; rw [IndexFunc_string_fcost_touches_1_L0] at h; cases h) ?_
 clear h
 rintro k1 s ⟨q1,hk1,hn1,i1,h,rfl⟩
 rcases q1 with _ | q1
 ·rw [IndexFunc_string_fcost_touches_1_L0] at h; cases h
 rw [IndexFunc_string_fcost_touches_1_L0] at h
 refine Qzd hT 1 [0,1,7,8,9] [(9,vb (decide (i1 < (ln a0))))] ?_
 refine WA_seq ?_
 refine Ci h (fun h=>?_) fun h=>?_
 ·refine WA_skip ?_
  refine WA_seq ?_
  refine WA_block ?_
  refine Qzd hT 2 [0,1,5,7,8] [(5,vi i1)] ?_
  refine Qgd hT 3 [0,1,5,7,8,11,12,13] [(11,.fn 68 [] [.ref (el_string a1c0) 0]),(12,po s_string a0),(13,vi i1)] ?_
  obtain ⟨x2,hx2,h⟩:=bsome h
  refine One' hT rfl (v_index s_string .opt a0 .i64 i1 hx2) ?_
  refine Sgd hT 1 [0,1,5,7,8,11,15] [(15,vw x2)] ?_
  obtain ⟨r3,hr3,h⟩:=bsome h
  refine Pt' en68 (cost_touches_1_ok hr3) ?_
  refine Szd hT 0 [0,1,5,7,8,16] [(16,vb r3)] ?_
  refine Ci h (fun h=>?_) fun h=>?_
  ·refine Qz hT 2 [4] ⟨[(4,vi i1)],[],1⟩ ?_
   obtain rfl:=Option.some.inj h
   exact rK [4] [] ⟨[(4,vi i1)],[],1⟩ ⟨by kernel_rfl,rfl⟩
  refine WA_skip ?_
  refine Rgd hT 2 [0,1,7,8] [(8,vi (wr (i1 + 1)))] ?_
  exact oK [0,1,7,8] [] ⟨_,by omega,by omega,wr (i1 + 1),h,rfl⟩
 refine WA_exit ?_
 refine Qz hT 1 [4] ⟨[(4,vi (-1))],[],1⟩ ?_
 obtain rfl:=Option.some.inj h
 exact rK [4] [] ⟨[(4,vi (-1))],[],1⟩ ⟨by kernel_rfl,rfl⟩
theorem ContainsFunc_string_fcost_touches_1_ok {n : Nat} {a0 : List ByteArray} {a1c0 : List ByteArray} {r : Bool} (h : ContainsFunc_string_fcost_touches_1 n a0 a1c0 = some r) : PT Try.prog 66 [po s_string a0,.fn 68 [] [.ref (el_string a1c0) 0]] (vb r):=by
 unfold ContainsFunc_string_fcost_touches_1 at h
 refine PT_bodyA hT Try.func66 rfl (by kernel_rfl) fun bad w=>?_
 refine Qzd hT 1 [0,1] [] ?_
 refine Qg hT 2 [5,6] ⟨[(5,po s_string a0),(6,.fn 68 [] [.ref (el_string a1c0) 0])],[],0⟩ ?_
 obtain ⟨r1,hr1,h⟩:=bsome h
 refine Pt' en84 (IndexFunc_string_fcost_touches_1_ok hr1) ?_
 refine Sz hT 2 [4] ⟨[(4,vb (decide (r1 ≥ 0)))],[],0⟩ ?_
 obtain rfl:=Option.some.inj h
 exact rK [4] [] ⟨[(4,vb (decide (r1 ≥ 0)))],[],1⟩ ⟨by kernel_rfl,rfl⟩
theorem cost_touches_ok {n : Nat} {a0 : Stmt} {a1 : List ByteArray} {r : Bool} (h : cost_touches n a0 a1 = some r) : PT Try.prog 44 [eStmt a0,po s_string a1] (vb r):=by
 unfold cost_touches at h
 refine PT_bodyA hT Try.func44 rfl (by kernel_rfl) fun bad w=>?_
 refine Qz hT 3 [2,3] ⟨[(2,bx 2 0),(3,bx 3 1)],[(3,cb 1 56 1 (po s_string a1)),(2,cb 0 93 11 (eStmt a0))],2⟩ ?_
 refine Qgd hT 1 [3,5] [(5,eStmt a0)] ?_
 obtain ⟨r1,hr1,h⟩:=bsome h
 refine Pt' en67 (tree_Touches_ok hr1) ?_
 refine Sgd hT 1 [6,7] [(6,.ps .fopt (s_string.F r1)),(7,.fn 68 [] [bx 3 1])] ?_
 obtain ⟨r2,hr2,h⟩:=bsome h
 refine Ob [3] [.ps .fopt (s_string.F r1),.fn 68 [] [bx 3 1]] [.ps .fopt (s_string.F r1),.fn 68 [] [.ref (el_string a1) 0]] (vb r2) en66 (PT_args ((ContainsFunc_string_fcost_touches_1_ok hr2)) ⟨VLe.fopt_opt,VLe.refl _,trivial⟩) ?_
 refine Szd hT 1 [4] [(4,vb r2)] ?_
 obtain rfl:=Option.some.inj h
 exact rK [4] [] ⟨[(4,vb r2)],[],1⟩ ⟨by kernel_rfl,rfl⟩
theorem cost_whole_ok {n : Nat} {a0 : Int} {r : Cx} (h : cost_whole n a0 = some r) : PT Try.prog 45 [vi a0] (vz r):=by
 unfold cost_whole at h
 refine PT_bodyA hT Try.func45 rfl (by kernel_rfl) fun bad w=>?_
 refine Qz hT 1 [0] ⟨[(0,vi a0)],[],0⟩ ?_
 refine Qz hT 4 [2] ⟨[(2,vz (⟨FloatKind.f64.nearest a0,0⟩ : Cx))],[],0⟩ ?_
 obtain rfl:=Option.some.inj h
 exact rK [2] [] ⟨[(2,vz (⟨FloatKind.f64.nearest a0,0⟩ : Cx))],[],1⟩ ⟨by kernel_rfl,rfl⟩
theorem cost_Upgrade_ok {n : Nat} {a0 : Prog} {a1 : ByteArray} {r : Cx} (h : cost_Upgrade n a0 a1 = some r) : PT Try.prog 18 [eProg a0,vw a1] (vz r):=by
 unfold cost_Upgrade at h
 refine PT_bodyA hT Try.func18 rfl (by kernel_rfl) fun bad w=>?_
 refine Qz hT 2 [1,2] ⟨[(1,vw a1),(2,bx 2 0)],[(2,cb 0 26 2 (eProg a0))],1⟩ ?_
 refine Qz hT 1 [1,2,5] ⟨[(1,vw a1),(2,bx 2 0),(5,vz (⟨0,4607182418800017408⟩ : Cx))],[(2,cb 0 26 2 (eProg a0))],1⟩ ?_
 refine Qg hT 1 [1,2,5,9] ⟨[(1,vw a1),(2,bx 2 0),(5,vz (⟨0,4607182418800017408⟩ : Cx)),(9,eProg a0)],[(2,cb 0 26 2 (eProg a0))],1⟩ ?_
 obtain ⟨r1,hr1,h⟩:=bsome h
 refine Pt' en42 (cost_Weights_ok hr1) ?_
 refine Sz hT 1 [1,2,5,6] ⟨[(1,vw a1),(2,bx 2 0),(5,vz (⟨0,4607182418800017408⟩ : Cx)),(6,.ps .fopt (s_int.F r1))],[(2,cb 0 26 2 (eProg a0))],1⟩ ?_
 refine WA_seq ?_
 refine Qg hT 1 [1,5,6,11] ⟨[(1,vw a1),(5,vz (⟨0,4607182418800017408⟩ : Cx)),(6,.ps .fopt (s_int.F r1)),(11,eProg a0)],[(2,cb 0 26 2 (eProg a0))],1⟩ ?_
 obtain ⟨r2,hr2,h⟩:=bsome h
 refine Pt' en43 (tree_List_ok hr2) ?_
 refine Sg hT 0 [1,5,6,12] ⟨[(1,vw a1),(5,vz (⟨0,4607182418800017408⟩ : Cx)),(6,.ps .fopt (s_int.F r1)),(12,.ps .fopt (s_Stmt.F r2))],[(2,cb 0 26 2 (eProg a0))],1⟩ ?_
 refine One' hT rfl (v_len s_Stmt .fopt r2) ?_
 refine Sz hT 1 [1,5,6,12,13,14] ⟨[(1,vw a1),(5,vz (⟨0,4607182418800017408⟩ : Cx)),(6,.ps .fopt (s_int.F r1)),(12,.ps .fopt (s_Stmt.F r2)),(13,vi (ln r2)),(14,vi 0)],[(2,cb 0 26 2 (eProg a0))],1⟩ ?_
 refine WA_block ?_
 refine lK [1,5,6,12,13,14] [] (fun k s=>∃ q,q ≤ k ∧ q ≤ n ∧ ∃ (z3 : Cx),∃ (i4 : Int),cost_Upgrade_L0 q a0 a1 r1 r2 z3 i4 = some r ∧ s = ⟨[(1,vw a1),(5,vz z3),(6,.ps .fopt (s_int.F r1)),(12,.ps .fopt (s_Stmt.F r2)),(13,vi (ln r2)),(14,vi i4)],[],1⟩) n ⟨n,Nat.le_refl _,Nat.le_refl _,(⟨0,4607182418800017408⟩ : Cx),0,h,rfl⟩ (by rintro s ⟨q,hq,_,z3,i4,h,_⟩; obtain rfl:=Nat.le_zero.1 hq; rw [cost_Upgrade_L0] at h; cases h) ?_
 clear h
 rintro k1 s ⟨q1,hk1,hn1,z3,i4,h,rfl⟩
 rcases q1 with _ | q1
 ·rw [cost_Upgrade_L0] at h; cases h
 rw [cost_Upgrade_L0] at h
 refine Qzd hT 1 [1,5,6,12,13,14,15] [(15,vb (decide (i4 < (ln r2))))] ?_
 refine WA_seq ?_
 refine Ci h (fun h=>?_) fun h=>?_
 ·refine WA_skip ?_
  refine WA_seq ?_
  obtain ⟨J6,hJ6,h⟩:=jsome h
  refine WA_join (fun s=>∃ (z5 : Cx),J6 z5 = some r ∧ s = ⟨[(1,vw a1),(5,vz z5),(6,.ps .fopt (s_int.F r1)),(12,.ps .fopt (s_Stmt.F r2)),(13,vi (ln r2)),(14,vi i4)],[],1⟩) ?_ ?_
  ·refine WA_block ?_
   refine Qgd hT 1 [1,5,6,12,13,14,16] [(16,vi i4)] ?_
   obtain ⟨x7,hx7,h⟩:=bsome h
   refine One' hT rfl (v_index s_Stmt .fopt r2 .i64 i4 hx7) ?_
   refine Szh hT 4 [1,5,6,7,8,12,13,14] [(7,vi i4),(8,bx 8 1)] [(8,cb 1 93 11 (eStmt x7))] 2 ?_
   refine Qgh hT 3 [1,5,6,7,12,13,14,19,21] [(19,eStmt x7),(21,vs 21 2 s_string [a1])] [(21,⟨2,9,1,false,false,s_string.F [a1]⟩),(8,cb 1 93 11 (eStmt x7))] 3 ?_
   refine WO_weak (wF 21 2 ⟨2,9,1,false,false,s_string.F [a1]⟩ [(1,vw a1),(5,vz z3),(6,.ps .fopt (s_int.F r1)),(7,vi i4),(12,.ps .fopt (s_Stmt.F r2)),(13,vi (ln r2)),(14,vi i4),(19,eStmt x7),(21,po s_string [a1])] [(8,cb 1 93 11 (eStmt x7))] ⟨rfl,.keep _,rfl,.keep _,rfl,.keep _,rfl,.keep _,rfl,.keep _,rfl,.keep _,rfl,.keep _,rfl,.keep _,rfl,.hit true,trivial⟩ ⟨rfl,.inl rfl,trivial⟩) ?_
   obtain ⟨r8,hr8,h⟩:=bsome h
   refine Pt' en44 (cost_touches_ok hr8) ?_
   refine Szd hT 0 [1,5,6,7,12,13,14,22] [(22,vb r8)] ?_
   refine Ci h (fun h=>?_) fun h=>?_
   ·refine Rgd hT 3 [1,6,12,13,14,23,24,25] [(23,vz z3),(24,.ps .fopt (s_int.F r1)),(25,vi i4)] ?_
    obtain ⟨x9,hx9,h⟩:=bsome h
    refine One' hT rfl (v_index s_int .fopt r1 .i64 i4 hx9) ?_
    refine Sgd hT 1 [1,6,12,13,14,23,27] [(27,vi x9)] ?_
    obtain ⟨r10,hr10,h⟩:=bsome h
    refine Pt' en45 (cost_whole_ok hr10) ?_
    refine Sg hT 0 [1,6,12,13,14,23,28] ⟨[(1,vw a1),(6,.ps .fopt (s_int.F r1)),(12,.ps .fopt (s_Stmt.F r2)),(13,vi (ln r2)),(14,vi i4),(23,vz z3),(28,vz r10)],[(8,cb 1 93 11 (eStmt x7))],3⟩ ?_
    obtain ⟨z11,hz11,h⟩:=bsome h
    refine One' hT rfl (ev_cadd z3 r10 hz11 (by kernel_rfl) (by kernel_rfl)) ?_
    refine Sgd hT 1 [1,5,6,12,13,14] [(5,vz z11)] ?_
    exact oK [1,5,6,12,13,14] [] ⟨z11,h,rfl⟩
   exact sK [1,5,6,12,13,14] [] ⟨z3,h,rfl⟩
  subst hJ6
  rintro s ⟨z5,h,rfl⟩
  skip
  refine Rgd hT 2 [1,5,6,12,13,14] [(14,vi (wr (i4 + 1)))] ?_
  exact oK [1,5,6,12,13,14] [] ⟨_,by omega,by omega,z5,wr (i4 + 1),h,rfl⟩
 refine WA_exit ?_
 refine Qz hT 2 [4] ⟨[(4,vz z3)],[],1⟩ ?_
 obtain rfl:=Option.some.inj h
 exact rK [4] [] ⟨[(4,vz z3)],[],1⟩ ⟨by kernel_rfl,rfl⟩
theorem cands_sets_ok {n : Nat} {a0 : List Int} {r : List (List Int)} (h : cands_sets n a0 = some r) : GO Try.prog 19 [] [po s_int a0] (vs 100 1 s_Lint r) [(100,rb 1 s_Lint r)]:=by
 unfold cands_sets at h
 refine GO_bodyA hT Try.func19 rfl [] (by kernel_rfl) fun bad w m=>?_
 refine Qzd hT 1 [0] [] ?_
 refine Qzd hT 1 [0,3] [(3,vn)] ?_
 refine WA_seq ?_
 refine WA_block ?_
 refine Qgd hT 1 [0,3,11] [(11,po s_int a0)] ?_
 refine One' hT rfl (v_len s_int .opt a0) ?_
 refine Szd hT 2 [0,3,10] [(10,vb (decide ((ln a0) > 4)))] ?_
 refine Ci h (fun h=>?_) fun h=>?_
 ·refine WA_seq ?_
  refine Qgd hT 1 [0,3,14] [(14,po s_int a0)] ?_
  refine One' hT rfl (v_len s_int .opt a0) ?_
  refine Szd hT 1 [0,3,14,15,16] [(15,vi (ln a0)),(16,vi 0)] ?_
  refine WA_block ?_
  refine aW [0,3,14,15,16] ⟨[(0,po s_int a0),(3,vn),(14,po s_int a0),(15,vi (ln a0)),(16,vi 0)],[],1⟩ ?_
  refine WA_weak (wO 3 5000 29 1) ?_
  refine lK [0,3,14,15,16] [(5000,10003,1)] (fun k s=>∃ q,q ≤ k ∧ q ≤ n ∧ ∃ (l1 : List (List Int)),∃ (i2 : Int),cands_sets_L0 q a0 l1 i2 = some r ∧ s = ⟨[(0,po s_int a0),(3,vs 10003 1 s_Lint l1),(14,po s_int a0),(15,vi (ln a0)),(16,vi i2)],[(10003,rb 1 s_Lint l1)],2⟩) n ⟨n,Nat.le_refl _,Nat.le_refl _,([] : List (List Int)),0,h,rfl⟩ (by rintro s ⟨q,hq,_,l1,i2,h,_⟩; obtain rfl:=Nat.le_zero.1 hq; rw [cands_sets_L0] at h; cases h) ?_
  clear h
  rintro k1 s ⟨q1,hk1,hn1,l1,i2,h,rfl⟩
  rcases q1 with _ | q1
  ·rw [cands_sets_L0] at h; cases h
  rw [cands_sets_L0] at h
  refine Qzd hT 1 [0,3,14,15,16,17] [(17,vb (decide (i2 < (ln a0))))] ?_
  refine WA_seq ?_
  refine Ci h (fun h=>?_) fun h=>?_
  ·refine WA_skip ?_
   refine WA_seq ?_
   obtain ⟨J4,hJ4,h⟩:=jsome h
   refine WA_join (fun s=>∃ (l3 : List (List Int)),J4 l3 = some r ∧ s = ⟨[(0,po s_int a0),(3,vs 10003 1 s_Lint l3),(14,po s_int a0),(15,vi (ln a0)),(16,vi i2)],[(10003,rb 1 s_Lint l3)],2⟩) ?_ ?_
   ·refine WA_block ?_
    refine Qgd hT 0 [0,3,14,15,16] [] ?_
    obtain ⟨x5,hx5,h⟩:=bsome h
    refine One' hT rfl (v_index s_int .opt a0 .i64 i2 hx5) ?_
    refine Szd hT 2 [0,3,5,14,15,16] [(5,vi x5)] ?_
    refine Qgd hT 1 [0,3,5,14,15,16,20] [(20,po s_int a0)] ?_
    refine One' hT rfl (v_len s_int .opt a0) ?_
    refine Szd hT 1 [0,3,5,14,15,16,22] [(22,vb (decide ((ln a0) ≤ 8)))] ?_
    refine Ci h (fun h=>?_) fun h=>?_
    ·refine Rgh hT 3 [0,14,15,16,23,25] [(23,vs 10003 1 s_Lint l1),(25,vs 25 2 s_int [x5])] [(25,⟨2,3,1,false,false,s_int.F [x5]⟩),(10003,rb 1 s_Lint l1)] 3 ?_
     refine WO_weak (wF 25 2 ⟨2,3,1,false,false,s_int.F [x5]⟩ [(0,po s_int a0),(14,po s_int a0),(15,vi (ln a0)),(16,vi i2),(23,vs 10003 1 s_Lint l1),(25,po s_int [x5])] [(10003,rb 1 s_Lint l1)] ⟨rfl,.keep _,rfl,.keep _,rfl,.keep _,rfl,.keep _,rfl,.keep _,rfl,.hit true,trivial⟩ ⟨rfl,.inl rfl,trivial⟩) ?_
     refine Sgh hT 1 [0,14,15,16,23,26] [(26,vs 26 3 s_Lint [[x5]])] [(26,⟨3,29,1,false,false,s_Lint.F [[x5]]⟩),(10003,rb 1 s_Lint l1)] 4 ?_
     obtain ⟨g6,h⟩:=gsome h
     refine Oa hT s_Lint 10003 1 true l1 [[x5]] (eO s_Lint 26 3 true ⟨3,29,1,false,false,s_Lint.F [[x5]]⟩ [[x5]]) g6 ?_
     refine Sgh hT 1 [0,3,14,15,16] [(3,vs 27 4 s_Lint (l1 ++ [[x5]]))] [(27,rb 4 s_Lint (l1 ++ [[x5]])),(26,⟨3,29,1,false,false,s_Lint.F [[x5]]⟩)] 5 ?_
     exact oK [0,3,14,15,16] [(27,10003,1)] ⟨l1 ++ [[x5]],h,rfl⟩
    exact sK [0,3,14,15,16] [(10003,10003,1)] ⟨l1,h,rfl⟩
   subst hJ4
   rintro s ⟨l3,h,rfl⟩
   skip
   refine Rg hT 2 [0,3,14,15,16] ⟨[(0,po s_int a0),(3,vs 10003 1 s_Lint l3),(14,po s_int a0),(15,vi (ln a0)),(16,vi (wr (i2 + 1)))],[(10003,rb 1 s_Lint l3)],2⟩ ?_
   exact oK [0,3,14,15,16] [(10003,10003,1)] ⟨_,by omega,by omega,l3,wr (i2 + 1),h,rfl⟩
  refine WA_exit ?_
  refine Qg hT 3 [29,31] ⟨[(29,vs 10003 1 s_Lint l1),(31,vs 31 2 s_Lint [a0])],[(31,⟨2,29,1,false,false,s_Lint.F [a0]⟩),(10003,rb 1 s_Lint l1)],3⟩ ?_
  obtain ⟨g7,h⟩:=gsome h
  refine Oa hT s_Lint 10003 1 true l1 [a0] (eO s_Lint 31 2 true ⟨2,29,1,false,false,s_Lint.F [a0]⟩ [a0]) g7 ?_
  refine Sz hT 1 [2] ⟨[(2,vs 32 3 s_Lint (l1 ++ [a0]))],[(32,rb 3 s_Lint (l1 ++ [a0])),(31,⟨2,29,1,false,false,s_Lint.F [a0]⟩)],4⟩ ?_
  obtain rfl:=Option.some.inj h
  exact rK [2] [(32,100,1)] ⟨[(2,vs 100 1 s_Lint (l1 ++ [a0]))],[(100,rb 1 s_Lint (l1 ++ [a0]))],2⟩ ⟨by kernel_rfl,by kernel_rfl,rfl⟩
 refine WA_skip ?_
 refine WA_seq ?_
 refine Qzd hT 1 [0,3,6] [(6,vi 1)] ?_
 refine WA_block ?_
 refine aW [0,3,6] ⟨[(0,po s_int a0),(3,vn),(6,vi 1)],[],1⟩ ?_
 refine WA_weak (wO 3 5000 29 1) ?_
 refine lK [0,3,6] [(5000,10003,1)] (fun k s=>∃ q,q ≤ k ∧ q ≤ n ∧ ∃ (l8 : List (List Int)),∃ (i9 : Int),cands_sets_L1 q a0 l8 i9 = some r ∧ s = ⟨[(0,po s_int a0),(3,vs 10003 1 s_Lint l8),(6,vi i9)],[(10003,rb 1 s_Lint l8)],2⟩) n ⟨n,Nat.le_refl _,Nat.le_refl _,([] : List (List Int)),1,h,rfl⟩ (by rintro s ⟨q,hq,_,l8,i9,h,_⟩; obtain rfl:=Nat.le_zero.1 hq; rw [cands_sets_L1] at h; cases h) ?_
 clear h
 rintro k1 s ⟨q1,hk1,hn1,l8,i9,h,rfl⟩
 rcases q1 with _ | q1
 ·rw [cands_sets_L1] at h; cases h
 rw [cands_sets_L1] at h
 refine WA_seq ?_
 refine Qgd hT 2 [0,3,6,33,34] [(33,vi i9),(34,po s_int a0)] ?_
 refine One' hT rfl (v_len s_int .opt a0) ?_
 refine Sgd hT 0 [0,3,6,33,35] [(35,vi (ln a0))] ?_
 obtain ⟨x10,hx10,h⟩:=bsome h
 refine One' hT rfl (ev_shl .i64 .i64 1 (ln a0) hx10 (by kernel_rfl) (by kernel_rfl)) ?_
 refine Sz hT 1 [0,3,6,37] ⟨[(0,po s_int a0),(3,vs 10003 1 s_Lint l8),(6,vi i9),(37,vb (decide (i9 < x10)))],[(10003,rb 1 s_Lint l8)],2⟩ ?_
 refine Ci h (fun h=>?_) fun h=>?_
 ·refine WA_skip ?_
  refine WA_seq ?_
  refine WA_block ?_
  refine Qzd hT 1 [0,3,6,7] [(7,vn)] ?_
  refine WA_seq ?_
  refine Qgd hT 1 [0,3,6,7,40] [(40,po s_int a0)] ?_
  refine One' hT rfl (v_len s_int .opt a0) ?_
  refine Szd hT 1 [0,3,6,7,40,41,42] [(41,vi (ln a0)),(42,vi 0)] ?_
  refine WA_block ?_
  refine aW [0,3,6,7,40,41,42] ⟨[(0,po s_int a0),(3,vs 10003 1 s_Lint l8),(6,vi i9),(7,vn),(40,po s_int a0),(41,vi (ln a0)),(42,vi 0)],[(10003,rb 1 s_Lint l8)],2⟩ ?_
  refine WA_weak (wO 7 5000 3 1) ?_
  refine lK [0,3,6,7,40,41,42] [(10003,10003,1),(5000,10007,1)] (fun k s=>∃ q,q ≤ k ∧ q ≤ q1 ∧ ∃ (l11 : List Int),∃ (i12 : Int),cands_sets_L2 q a0 l8 i9 x10 l11 i12 = some r ∧ s = ⟨[(0,po s_int a0),(3,vs 10003 1 s_Lint l8),(6,vi i9),(7,vs 10007 1 s_int l11),(40,po s_int a0),(41,vi (ln a0)),(42,vi i12)],[(10003,rb 1 s_Lint l8),(10007,rb 1 s_int l11)],2⟩) q1 ⟨q1,Nat.le_refl _,Nat.le_refl _,([] : List Int),0,h,rfl⟩ (by rintro s ⟨q,hq,_,l11,i12,h,_⟩; obtain rfl:=Nat.le_zero.1 hq; rw [cands_sets_L2] at h; cases h) ?_
  clear h
  rintro k2 s ⟨q2,hk2,hn2,l11,i12,h,rfl⟩
  rcases q2 with _ | q2
  ·rw [cands_sets_L2] at h; cases h
  rw [cands_sets_L2] at h
  refine Qzd hT 1 [0,3,6,7,40,41,42,43] [(43,vb (decide (i12 < (ln a0))))] ?_
  refine WA_seq ?_
  refine Ci h (fun h=>?_) fun h=>?_
  ·refine WA_skip ?_
   refine WA_seq ?_
   obtain ⟨J14,hJ14,h⟩:=jsome h
   refine WA_join (fun s=>∃ (l13 : List Int),J14 l13 = some r ∧ s = ⟨[(0,po s_int a0),(3,vs 10003 1 s_Lint l8),(6,vi i9),(7,vs 10007 1 s_int l13),(40,po s_int a0),(41,vi (ln a0)),(42,vi i12)],[(10003,rb 1 s_Lint l8),(10007,rb 1 s_int l13)],2⟩) ?_ ?_
   ·refine WA_block ?_
    refine Qgd hT 1 [0,3,6,7,40,41,42,44] [(44,vi i12)] ?_
    obtain ⟨x15,hx15,h⟩:=bsome h
    refine One' hT rfl (v_index s_int .opt a0 .i64 i12 hx15) ?_
    refine Szd hT 3 [0,3,6,7,8,9,40,41,42] [(8,vi i12),(9,vi x15)] ?_
    refine Qgd hT 2 [0,3,6,7,9,40,41,42,47,48] [(47,vi i9),(48,vi i12)] ?_
    obtain ⟨x16,hx16,h⟩:=bsome h
    refine One' hT rfl (ev_shr .i64 .i64 i9 i12 hx16 (by kernel_rfl) (by kernel_rfl)) ?_
    refine Szd hT 2 [0,3,6,7,9,40,41,42,51] [(51,vb ((wr ((BitVec.ofInt 64 x16 &&& BitVec.ofInt 64 1).toNat : Nat)) == 1))] ?_
    refine Ci h (fun h=>?_) fun h=>?_
    ·refine Rgh hT 3 [0,3,6,40,41,42,52,54] [(52,vs 10007 1 s_int l11),(54,vs 54 2 s_int [x15])] [(54,⟨2,3,1,false,false,s_int.F [x15]⟩),(10003,rb 1 s_Lint l8),(10007,rb 1 s_int l11)] 3 ?_
     obtain ⟨g17,h⟩:=gsome h
     refine Oa hT s_int 10007 1 true l11 [x15] (eO s_int 54 2 true ⟨2,3,1,false,false,s_int.F [x15]⟩ [x15]) g17 ?_
     refine Sgh hT 1 [0,3,6,7,40,41,42] [(7,vs 55 3 s_int (l11 ++ [x15]))] [(55,rb 3 s_int (l11 ++ [x15])),(54,⟨2,3,1,false,false,s_int.F [x15]⟩),(10003,rb 1 s_Lint l8)] 4 ?_
     exact oK [0,3,6,7,40,41,42] [(10003,10003,1),(55,10007,1)] ⟨l11 ++ [x15],h,rfl⟩
    exact sK [0,3,6,7,40,41,42] [(10003,10003,1),(10007,10007,1)] ⟨l11,h,rfl⟩
   subst hJ14
   rintro s ⟨l13,h,rfl⟩
   skip
   refine Rg hT 2 [0,3,6,7,40,41,42] ⟨[(0,po s_int a0),(3,vs 10003 1 s_Lint l8),(6,vi i9),(7,vs 10007 1 s_int l13),(40,po s_int a0),(41,vi (ln a0)),(42,vi (wr (i12 + 1)))],[(10003,rb 1 s_Lint l8),(10007,rb 1 s_int l13)],2⟩ ?_
   exact oK [0,3,6,7,40,41,42] [(10003,10003,1),(10007,10007,1)] ⟨_,by omega,by omega,l13,wr (i12 + 1),h,rfl⟩
  refine WA_exit ?_
  refine Rgd hT 2 [0,6,57,58] [(57,vs 10003 1 s_Lint l8),(58,vs 10007 1 s_int l11)] ?_
  refine WO_weak (wF 10007 1 (rb 1 s_int l11) [(0,po s_int a0),(6,vi i9),(57,vs 10003 1 s_Lint l8),(58,po s_int l11)] [(10003,rb 1 s_Lint l8)] ⟨rfl,.keep _,rfl,.keep _,rfl,.keep _,rfl,.hit true,trivial⟩ ⟨rfl,.inl rfl,trivial⟩) ?_
  refine Sgh hT 1 [0,6,57,59] [(59,vs 59 2 s_Lint [l11])] [(59,⟨2,29,1,false,false,s_Lint.F [l11]⟩),(10003,rb 1 s_Lint l8)] 3 ?_
  obtain ⟨g18,h⟩:=gsome h
  refine Oa hT s_Lint 10003 1 true l8 [l11] (eO s_Lint 59 2 true ⟨2,29,1,false,false,s_Lint.F [l11]⟩ [l11]) g18 ?_
  refine Szh hT 1 [0,3,6] [(3,vs 60 3 s_Lint (l8 ++ [l11]))] [(60,rb 3 s_Lint (l8 ++ [l11])),(59,⟨2,29,1,false,false,s_Lint.F [l11]⟩)] 4 ?_
  refine Rgd hT 3 [0,3,6] [(6,vi (wr (i9 + 1)))] ?_
  exact oK [0,3,6] [(60,10003,1)] ⟨_,by omega,by omega,l8 ++ [l11],wr (i9 + 1),h,rfl⟩
 refine WA_exit ?_
 refine Qzd hT 2 [2] [(2,vs 10003 1 s_Lint l8)] ?_
 obtain rfl:=Option.some.inj h
 exact rK [2] [(10003,100,1)] ⟨[(2,vs 100 1 s_Lint l8)],[(100,rb 1 s_Lint l8)],2⟩ ⟨by kernel_rfl,by kernel_rfl,rfl⟩
theorem Clone_int_ok {n : Nat} {a0 : List Int} {r : List Int} (h : Clone_int n a0 = some r) : GO Try.prog 21 [] [po s_int a0] (vs 100 1 s_int r) [(100,rb 1 s_int r)]:=by
 unfold Clone_int at h
 refine GO_bodyA hT Try.func21 rfl [] (by kernel_rfl) fun bad w m=>?_
 refine Qzd hT 1 [0] [] ?_
 refine WA_seq ?_
 refine Qgd hT 1 [0,3] [(3,po s_int a0)] ?_
 refine WO_isnil' hT s_int rfl (by kernel_rfl) .opt a0 rfl (by kernel_rfl) (by kernel_rfl) ?_
 intro b1 hnil
 cases b1
 ·clear hnil
  refine Szh hT 0 [0,4] [(4,vb false)] [] 1 ?_
  refine WA_cond false (by kernel_rfl) (fun hb=>by cases hb) (fun _=>?_)
  refine WA_skip ?_
  refine Qg hT 2 [5,6] ⟨[(5,vs 5 1 s_int ([] : List Int)),(6,po s_int a0)],[(5,⟨1,3,1,false,false,s_int.F ([] : List Int)⟩)],2⟩ ?_
  obtain ⟨g2,h⟩:=gsome h
  refine Oa hT s_int 5 1 false ([] : List Int) a0 (by kernel_rfl) g2 ?_
  refine Sz hT 1 [2] ⟨[(2,vs 7 2 s_int (([] : List Int) ++ a0))],[(7,rb 2 s_int (([] : List Int) ++ a0))],3⟩ ?_
  obtain rfl:=Option.some.inj h
  exact rK [2] [(7,100,1)] ⟨[(2,vs 100 1 s_int (([] : List Int) ++ a0))],[(100,rb 1 s_int (([] : List Int) ++ a0))],2⟩ ⟨by kernel_rfl,by kernel_rfl,rfl⟩
 ·replace h : some ([] : List Int) = some r:=by (have e:=hnil rfl; subst e; first | exact h | (obtain ⟨_,h⟩:=gsome h; simpa using h))
  clear hnil
  refine Szh hT 0 [0,4] [(4,vb true)] [] 1 ?_
  refine WA_cond true (by kernel_rfl) (fun _=>?_) (fun hb=>by cases hb)
  refine Qz hT 1 [2] ⟨[(2,vn)],[],1⟩ ?_
  refine aW [2] ⟨[(2,vn)],[],1⟩ ?_
  refine WA_weak (wO 2 5000 3 1) ?_
  obtain rfl:=Option.some.inj h
  exact rK [2] [(5000,100,1)] ⟨[(2,vs 100 1 s_int ([] : List Int))],[(100,rb 1 s_int ([] : List Int))],2⟩ ⟨by kernel_rfl,by kernel_rfl,rfl⟩
theorem cands_named_ok {n : Nat} {a0 : Prog} {a1 : List Int} {r : List ByteArray} (h : cands_named n a0 a1 = some r) : GO Try.prog 23 [] [eProg a0,po s_int a1] (vs 100 1 s_string r) [(100,rb 1 s_string r)]:=by
 unfold cands_named at h
 refine GO_bodyA hT Try.func23 rfl [] (by kernel_rfl) fun bad w m=>?_
 refine Qzh hT 2 [1,2] [(2,bx 2 1)] [(2,cb 1 26 2 (eProg a0))] 2 ?_
 refine Qzd hT 1 [1,2,5] [(5,vn)] ?_
 refine WA_seq ?_
 refine Qgd hT 1 [2,5,8] [(8,po s_int a1)] ?_
 refine One' hT rfl (v_len s_int .opt a1) ?_
 refine Szd hT 1 [2,5,8,9,10] [(9,vi (ln a1)),(10,vi 0)] ?_
 refine WA_block ?_
 refine aW [2,5,8,9,10] ⟨[(2,bx 2 1),(5,vn),(8,po s_int a1),(9,vi (ln a1)),(10,vi 0)],[(2,cb 1 26 2 (eProg a0))],2⟩ ?_
 refine WA_weak (wO 5 5000 9 1) ?_
 refine lK [2,5,8,9,10] [(2,2,1),(5000,10005,1)] (fun k s=>∃ q,q ≤ k ∧ q ≤ n ∧ ∃ (l1 : List ByteArray),∃ (i2 : Int),cands_named_L0 q a0 a1 l1 i2 = some r ∧ s = ⟨[(2,bx 2 1),(5,vs 10005 1 s_string l1),(8,po s_int a1),(9,vi (ln a1)),(10,vi i2)],[(2,cb 1 26 2 (eProg a0)),(10005,rb 1 s_string l1)],2⟩) n ⟨n,Nat.le_refl _,Nat.le_refl _,([] : List ByteArray),0,h,rfl⟩ (by rintro s ⟨q,hq,_,l1,i2,h,_⟩; obtain rfl:=Nat.le_zero.1 hq; rw [cands_named_L0] at h; cases h) ?_
 clear h
 rintro k1 s ⟨q1,hk1,hn1,l1,i2,h,rfl⟩
 rcases q1 with _ | q1
 ·rw [cands_named_L0] at h; cases h
 rw [cands_named_L0] at h
 refine Qzd hT 1 [2,5,8,9,10,11] [(11,vb (decide (i2 < (ln a1))))] ?_
 refine WA_seq ?_
 refine Ci h (fun h=>?_) fun h=>?_
 ·refine WA_skip ?_
  refine WA_seq ?_
  refine WA_block ?_
  refine Qgd hT 0 [2,5,8,9,10] [] ?_
  obtain ⟨x3,hx3,h⟩:=bsome h
  refine One' hT rfl (v_index s_int .opt a1 .i64 i2 hx3) ?_
  refine Szd hT 2 [2,5,7,8,9,10] [(7,vi x3)] ?_
  refine Rgd hT 4 [2,8,9,10,14,16,17] [(14,vs 10005 1 s_string l1),(16,po s_Decl a0.Decls),(17,vi x3)] ?_
  obtain ⟨x4,hx4,h⟩:=bsome h
  refine One' hT rfl (v_index s_Decl .opt a0.Decls .i64 x3 hx4) ?_
  refine Sgh hT 3 [2,8,9,10,14,21] [(21,vs 21 2 s_string [x4.Name])] [(21,⟨2,9,1,false,false,s_string.F [x4.Name]⟩),(2,cb 1 26 2 (eProg a0)),(10005,rb 1 s_string l1)] 3 ?_
  obtain ⟨g5,h⟩:=gsome h
  refine Oa hT s_string 10005 1 true l1 [x4.Name] (eO s_string 21 2 true ⟨2,9,1,false,false,s_string.F [x4.Name]⟩ [x4.Name]) g5 ?_
  refine Szh hT 1 [2,5,8,9,10] [(5,vs 22 3 s_string (l1 ++ [x4.Name]))] [(22,rb 3 s_string (l1 ++ [x4.Name])),(21,⟨2,9,1,false,false,s_string.F [x4.Name]⟩),(2,cb 1 26 2 (eProg a0))] 4 ?_
  refine Rgd hT 2 [2,5,8,9,10] [(10,vi (wr (i2 + 1)))] ?_
  exact oK [2,5,8,9,10] [(2,2,1),(22,10005,1)] ⟨_,by omega,by omega,l1 ++ [x4.Name],wr (i2 + 1),h,rfl⟩
 refine WA_exit ?_
 refine Qzd hT 2 [4] [(4,vs 10005 1 s_string l1)] ?_
 obtain rfl:=Option.some.inj h
 exact rK [4] [(10005,100,1)] ⟨[(4,vs 100 1 s_string l1)],[(100,rb 1 s_string l1)],2⟩ ⟨by kernel_rfl,by kernel_rfl,rfl⟩
theorem cost_size_ok {n : Nat} {a0 : Stmt} {r : Int} (h : cost_size n a0 = some r) : PT Try.prog 70 [eStmt a0] (vi r):=by
 unfold cost_size at h
 refine PT_bodyA hT Try.func70 rfl (by kernel_rfl) fun bad w=>?_
 refine Qz hT 2 [1] ⟨[(1,bx 1 0)],[(1,cb 0 93 11 (eStmt a0))],1⟩ ?_
 refine Qgd hT 1 [3] [(3,eStmt a0)] ?_
 refine One' hT rfl (ev_bslice s_Stmt 4 [a0] (by kernel_rfl)) ?_
 refine Sg hT 0 [4] ⟨[(4,vs 4 1 s_Stmt [a0])],[(4,⟨1,93,11,false,false,s_Stmt.F [a0]⟩),(1,cb 0 93 11 (eStmt a0))],2⟩ ?_
 refine WO_weak (wF 4 1 ⟨1,93,11,false,false,s_Stmt.F [a0]⟩ [(4,po s_Stmt [a0])] [(1,cb 0 93 11 (eStmt a0))] ⟨rfl,.hit true,trivial⟩ ⟨rfl,.inl rfl,trivial⟩) ?_
 refine Sg hT 1 [5] ⟨[(5,vs 5 2 s_LStmt [[a0]])],[(5,⟨2,72,1,false,false,s_LStmt.F [[a0]]⟩),(1,cb 0 93 11 (eStmt a0))],3⟩ ?_
 refine WO_weak (wF 5 2 ⟨2,72,1,false,false,s_LStmt.F [[a0]]⟩ [(5,po s_LStmt [[a0]])] [(1,cb 0 93 11 (eStmt a0))] ⟨rfl,.hit true,trivial⟩ ⟨rfl,.inl rfl,trivial⟩) ?_
 refine Sg hT 1 [6] ⟨[(6,.agg [vn,po s_LStmt [[a0]]])],[(1,cb 0 93 11 (eStmt a0))],3⟩ ?_
 obtain ⟨r1,hr1,h⟩:=bsome h
 refine Pt' (vs:=[.agg [vn,po s_LStmt [[a0]]]]) en43 (PT_args ((tree_List_ok hr1)) ⟨VLe.agg ⟨VLe.nil_opt,VLe.refl _,trivial⟩,trivial⟩) ?_
 refine Sgd hT 0 [7] [(7,.ps .fopt (s_Stmt.F r1))] ?_
 refine One' hT rfl (v_len s_Stmt .fopt r1) ?_
 refine Szd hT 1 [2] [(2,vi (ln r1))] ?_
 obtain rfl:=Option.some.inj h
 exact rK [2] [] ⟨[(2,vi (ln r1))],[],1⟩ ⟨by kernel_rfl,rfl⟩
theorem cost_Wrapped_ok {n : Nat} {a0 : Prog} {a1 : List ByteArray} {r : List Int} (h : cost_Wrapped n a0 a1 = some r) : PT Try.prog 46 [eProg a0,po s_string a1] (.ps .fopt (s_int.F r)):=by
 unfold cost_Wrapped at h
 refine PT_bodyA hT Try.func46 rfl (by kernel_rfl) fun bad w=>?_
 refine Qzh hT 2 [1,2] [(2,bx 2 0)] [(2,cb 0 26 2 (eProg a0))] 1 ?_
 refine Qzd hT 1 [1,2,5] [(5,vn)] ?_
 refine Qgd hT 1 [1,5,8] [(8,eProg a0)] ?_
 obtain ⟨r1,hr1,h⟩:=bsome h
 refine Pt' en43 (tree_List_ok hr1) ?_
 refine Szd hT 1 [1,5,6] [(6,.ps .fopt (s_Stmt.F r1))] ?_
 refine WA_seq ?_
 refine Qzd hT 1 [1,5,6,7] [(7,vi 0)] ?_
 refine WA_block ?_
 refine aW [1,5,6,7] ⟨[(1,po s_string a1),(5,vn),(6,.ps .fopt (s_Stmt.F r1)),(7,vi 0)],[(2,cb 0 26 2 (eProg a0))],1⟩ ?_
 refine WA_weak (wO 5 5000 3 1) ?_
 refine lK [1,5,6,7] [(5000,10005,0)] (fun k s=>∃ q,q ≤ k ∧ q ≤ n ∧ ∃ (l2 : List Int),∃ (i3 : Int),cost_Wrapped_L0 q a0 a1 r1 l2 i3 = some r ∧ s = ⟨[(1,po s_string a1),(5,vs 10005 0 s_int l2),(6,.ps .fopt (s_Stmt.F r1)),(7,vi i3)],[(10005,rb 0 s_int l2)],1⟩) n ⟨n,Nat.le_refl _,Nat.le_refl _,([] : List Int),0,h,rfl⟩ (by rintro s ⟨q,hq,_,l2,i3,h,_⟩; obtain rfl:=Nat.le_zero.1 hq; rw [cost_Wrapped_L0] at h; cases h) ?_
 clear h
 rintro k1 s ⟨q1,hk1,hn1,l2,i3,h,rfl⟩
 rcases q1 with _ | q1
 ·rw [cost_Wrapped_L0] at h; cases h
 rw [cost_Wrapped_L0] at h
 refine WA_seq ?_
 refine Qgd hT 2 [1,5,6,7,10,11] [(10,vi i3),(11,.ps .fopt (s_Stmt.F r1))] ?_
 refine One' hT rfl (v_len s_Stmt .fopt r1) ?_
 refine Szd hT 1 [1,5,6,7,13] [(13,vb (decide (i3 < (ln r1))))] ?_
 refine Ci h (fun h=>?_) fun h=>?_
 ·refine WA_skip ?_
  refine WA_block ?_
  refine Qgd hT 2 [1,5,6,7,14,15] [(14,.ps .fopt (s_Stmt.F r1)),(15,vi i3)] ?_
  obtain ⟨x4,hx4,h⟩:=bsome h
  refine One' hT rfl (v_index s_Stmt .fopt r1 .i64 i3 hx4) ?_
  refine Sgd hT 2 [1,5,6,7,17,18] [(17,eStmt x4),(18,po s_string a1)] ?_
  obtain ⟨r5,hr5,h⟩:=bsome h
  refine Pt' en44 (cost_touches_ok hr5) ?_
  refine Szd hT 0 [1,5,6,7,19] [(19,vb r5)] ?_
  refine Ci h (fun h=>?_) fun h=>?_
  ·refine Qgh hT 3 [1,6,7,20,22] [(20,vs 10005 0 s_int l2),(22,vs 22 1 s_int [i3])] [(22,⟨1,3,1,false,false,s_int.F [i3]⟩),(10005,rb 0 s_int l2)] 2 ?_
   obtain ⟨g6,h⟩:=gsome h
   refine Oa hT s_int 10005 0 true l2 [i3] (eO s_int 22 1 true ⟨1,3,1,false,false,s_int.F [i3]⟩ [i3]) g6 ?_
   refine Szh hT 1 [1,5,6,7] [(5,vs 23 2 s_int (l2 ++ [i3]))] [(23,rb 2 s_int (l2 ++ [i3])),(22,⟨1,3,1,false,false,s_int.F [i3]⟩)] 3 ?_
   refine Rgd hT 3 [1,5,6,24,25,26] [(24,vi i3),(25,.ps .fopt (s_Stmt.F r1)),(26,vi i3)] ?_
   obtain ⟨x7,hx7,h⟩:=bsome h
   refine One' hT rfl (v_index s_Stmt .fopt r1 .i64 i3 hx7) ?_
   refine Sg hT 1 [1,5,6,24,28] ⟨[(1,po s_string a1),(5,vs 23 2 s_int (l2 ++ [i3])),(6,.ps .fopt (s_Stmt.F r1)),(24,vi i3),(28,eStmt x7)],[(23,rb 2 s_int (l2 ++ [i3])),(22,⟨1,3,1,false,false,s_int.F [i3]⟩)],3⟩ ?_
   obtain ⟨r8,hr8,h⟩:=bsome h
   refine Pt' en70 (cost_size_ok hr8) ?_
   refine Sgd hT 2 [1,5,6,7] [(7,vi (wr (i3 + r8)))] ?_
   exact oK [1,5,6,7] [(23,10005,0)] ⟨_,by omega,by omega,l2 ++ [i3],wr (i3 + r8),h,rfl⟩
  refine Rgd hT 3 [1,5,6,7] [(7,vi (wr (i3 + 1)))] ?_
  exact oK [1,5,6,7] [(10005,10005,0)] ⟨_,by omega,by omega,l2,wr (i3 + 1),h,rfl⟩
 refine WA_exit ?_
 refine Qgd hT 1 [33] [(33,vs 10005 0 s_int l2)] ?_
 refine WO_weak (wF 10005 0 (rb 0 s_int l2) [(33,po s_int l2)] [] ⟨rfl,.hit true,trivial⟩ trivial) ?_
 obtain ⟨r9,hr9,h⟩:=bsome h
 refine Pt' en20 (Clip_int_ok hr9) ?_
 refine Sz hT 1 [4] ⟨[(4,.ps .fopt (s_int.F r9))],[],1⟩ ?_
 obtain rfl:=Option.some.inj h
 exact rK [4] [] ⟨[(4,.ps .fopt (s_int.F r9))],[],1⟩ ⟨by kernel_rfl,rfl⟩
theorem cost_Guard_ok {n : Nat} {a0 : Prog} {a1 : List ByteArray} {r : Cx} (h : cost_Guard n a0 a1 = some r) : PT Try.prog 22 [eProg a0,po s_string a1] (vz r):=by
 unfold cost_Guard at h
 refine PT_bodyA hT Try.func22 rfl (by kernel_rfl) fun bad w=>?_
 refine Qzh hT 2 [1,2] [(2,bx 2 0)] [(2,cb 0 26 2 (eProg a0))] 1 ?_
 refine Qz hT 1 [1,2,5] ⟨[(1,po s_string a1),(2,bx 2 0),(5,vz (⟨0,4607182418800017408⟩ : Cx))],[(2,cb 0 26 2 (eProg a0))],1⟩ ?_
 refine Qg hT 1 [1,2,5,9] ⟨[(1,po s_string a1),(2,bx 2 0),(5,vz (⟨0,4607182418800017408⟩ : Cx)),(9,eProg a0)],[(2,cb 0 26 2 (eProg a0))],1⟩ ?_
 obtain ⟨r1,hr1,h⟩:=bsome h
 refine Pt' en42 (cost_Weights_ok hr1) ?_
 refine Sz hT 1 [1,2,5,6] ⟨[(1,po s_string a1),(2,bx 2 0),(5,vz (⟨0,4607182418800017408⟩ : Cx)),(6,.ps .fopt (s_int.F r1))],[(2,cb 0 26 2 (eProg a0))],1⟩ ?_
 refine WA_seq ?_
 refine Qg hT 2 [5,6,11,12] ⟨[(5,vz (⟨0,4607182418800017408⟩ : Cx)),(6,.ps .fopt (s_int.F r1)),(11,eProg a0),(12,po s_string a1)],[(2,cb 0 26 2 (eProg a0))],1⟩ ?_
 obtain ⟨r2,hr2,h⟩:=bsome h
 refine Pt' en46 (cost_Wrapped_ok hr2) ?_
 refine Sg hT 0 [5,6,13] ⟨[(5,vz (⟨0,4607182418800017408⟩ : Cx)),(6,.ps .fopt (s_int.F r1)),(13,.ps .fopt (s_int.F r2))],[(2,cb 0 26 2 (eProg a0))],1⟩ ?_
 refine One' hT rfl (v_len s_int .fopt r2) ?_
 refine Sz hT 1 [5,6,13,14,15] ⟨[(5,vz (⟨0,4607182418800017408⟩ : Cx)),(6,.ps .fopt (s_int.F r1)),(13,.ps .fopt (s_int.F r2)),(14,vi (ln r2)),(15,vi 0)],[(2,cb 0 26 2 (eProg a0))],1⟩ ?_
 refine WA_block ?_
 refine lK [5,6,13,14,15] [] (fun k s=>∃ q,q ≤ k ∧ q ≤ n ∧ ∃ (z3 : Cx),∃ (i4 : Int),cost_Guard_L0 q a0 a1 r1 r2 z3 i4 = some r ∧ s = ⟨[(5,vz z3),(6,.ps .fopt (s_int.F r1)),(13,.ps .fopt (s_int.F r2)),(14,vi (ln r2)),(15,vi i4)],[],1⟩) n ⟨n,Nat.le_refl _,Nat.le_refl _,(⟨0,4607182418800017408⟩ : Cx),0,h,rfl⟩ (by rintro s ⟨q,hq,_,z3,i4,h,_⟩; obtain rfl:=Nat.le_zero.1 hq; rw [cost_Guard_L0] at h; cases h) ?_
 clear h
 rintro k1 s ⟨q1,hk1,hn1,z3,i4,h,rfl⟩
 rcases q1 with _ | q1
 ·rw [cost_Guard_L0] at h; cases h
 rw [cost_Guard_L0] at h
 refine Qzd hT 1 [5,6,13,14,15,16] [(16,vb (decide (i4 < (ln r2))))] ?_
 refine WA_seq ?_
 refine Ci h (fun h=>?_) fun h=>?_
 ·refine WA_skip ?_
  refine WA_seq ?_
  refine WA_block ?_
  refine Qgd hT 0 [5,6,13,14,15] [] ?_
  obtain ⟨x5,hx5,h⟩:=bsome h
  refine One' hT rfl (v_index s_int .fopt r2 .i64 i4 hx5) ?_
  refine Szd hT 2 [5,6,8,13,14,15] [(8,vi x5)] ?_
  refine Rgd hT 3 [6,13,14,15,19,20,21] [(19,vz z3),(20,.ps .fopt (s_int.F r1)),(21,vi x5)] ?_
  obtain ⟨x6,hx6,h⟩:=bsome h
  refine One' hT rfl (v_index s_int .fopt r1 .i64 x5 hx6) ?_
  refine Sgd hT 1 [6,13,14,15,19,23] [(23,vi x6)] ?_
  obtain ⟨r7,hr7,h⟩:=bsome h
  refine Pt' en45 (cost_whole_ok hr7) ?_
  refine Sgd hT 0 [6,13,14,15,19,24] [(24,vz r7)] ?_
  obtain ⟨z8,hz8,h⟩:=bsome h
  refine One' hT rfl (ev_cmul (⟨4611686018427387904,0⟩ : Cx) r7 hz8 (by kernel_rfl) (by kernel_rfl)) ?_
  refine Sg hT 0 [6,13,14,15,19,25] ⟨[(6,.ps .fopt (s_int.F r1)),(13,.ps .fopt (s_int.F r2)),(14,vi (ln r2)),(15,vi i4),(19,vz z3),(25,vz z8)],[],1⟩ ?_
  obtain ⟨z9,hz9,h⟩:=bsome h
  refine One' hT rfl (ev_cadd z3 z8 hz9 (by kernel_rfl) (by kernel_rfl)) ?_
  refine Szd hT 1 [5,6,13,14,15] [(5,vz z9)] ?_
  refine Rgd hT 2 [5,6,13,14,15] [(15,vi (wr (i4 + 1)))] ?_
  exact oK [5,6,13,14,15] [] ⟨_,by omega,by omega,z9,wr (i4 + 1),h,rfl⟩
 refine WA_exit ?_
 refine Qz hT 2 [4] ⟨[(4,vz z3)],[],1⟩ ?_
 obtain rfl:=Option.some.inj h
 exact rK [4] [] ⟨[(4,vz z3)],[],1⟩ ⟨by kernel_rfl,rfl⟩
theorem Clip_Cand_ok {n : Nat} {a0 : List Cand} {r : List Cand} (h : Clip_Cand n a0 = some r) : PT Try.prog 24 [po s_Cand a0] (.ps .fopt (s_Cand.F r)):=by
 unfold Clip_Cand at h
 refine PT_bodyA hT Try.func24 rfl (by kernel_rfl) fun bad w=>?_
 refine Qzd hT 1 [0] [] ?_
 refine Qgd hT 2 [0,3,4] [(3,po s_Cand a0),(4,po s_Cand a0)] ?_
 refine One' hT rfl (v_len s_Cand .opt a0) ?_
 refine Sgd hT 1 [3,5,6] [(5,vi (ln a0)),(6,po s_Cand a0)] ?_
 refine One' hT rfl (v_len s_Cand .opt a0) ?_
 refine Sgd hT 0 [3,5,7] [(7,vi (ln a0))] ?_
 obtain ⟨l1,hl1,h⟩:=bsome h
 refine One' hT rfl (v_slice s_Cand .opt a0 0 (ln a0) (some (ln a0)) l1 .fopt hl1 (by intro y hy; cases hy; rfl)) ?_
 refine Sz hT 1 [2] ⟨[(2,.ps .fopt (s_Cand.F l1))],[],0⟩ ?_
 obtain rfl:=Option.some.inj h
 exact rK [2] [] ⟨[(2,.ps .fopt (s_Cand.F l1))],[],1⟩ ⟨by kernel_rfl,rfl⟩
theorem cands_Of_ok {n : Nat} {a0 : Prog} {a1 : List Int} {r : List Cand} (h : cands_Of n a0 a1 = some r) : PT Try.prog 8 [eProg a0,po s_int a1] (.ps .fopt (s_Cand.F r)):=by
 unfold cands_Of at h
 refine PT_bodyA hT Try.func8 rfl (by kernel_rfl) fun bad w=>?_
 refine Qz hT 2 [1,2] ⟨[(1,po s_int a1),(2,bx 2 0)],[(2,cb 0 26 2 (eProg a0))],1⟩ ?_
 refine Qzd hT 1 [1,2,5] [(5,vn)] ?_
 refine Qzh hT 3 [1,2,5,6] [(6,bx 6 1)] [(6,cb 1 49 1 (.fn 15 [] [bx 2 0])),(2,cb 0 26 2 (eProg a0))] 2 ?_
 refine WA_seq ?_
 refine Qgd hT 1 [1,2,5,6,13] [(13,po s_int a1)] ?_
 refine One' hT rfl (v_len s_int .opt a1) ?_
 refine Szd hT 1 [1,2,5,6,13,14,15] [(14,vi (ln a1)),(15,vi 0)] ?_
 refine WA_block ?_
 refine aW [1,2,5,6,13,14,15] ⟨[(1,po s_int a1),(2,bx 2 0),(5,vn),(6,bx 6 1),(13,po s_int a1),(14,vi (ln a1)),(15,vi 0)],[(6,cb 1 49 1 (.fn 15 [] [bx 2 0])),(2,cb 0 26 2 (eProg a0))],2⟩ ?_
 refine WA_weak (wO 5 5000 37 3) ?_
 refine lK [1,2,5,6,13,14,15] [(2,2,0),(6,6,0),(5000,10005,0)] (fun k s=>∃ q,q ≤ k ∧ q ≤ n ∧ ∃ (l1 : List Cand),∃ (i2 : Int),cands_Of_L0 q a0 a1 l1 i2 = some r ∧ s = ⟨[(1,po s_int a1),(2,bx 2 0),(5,vs 10005 0 s_Cand l1),(6,bx 6 0),(13,po s_int a1),(14,vi (ln a1)),(15,vi i2)],[(2,cb 0 26 2 (eProg a0)),(6,cb 0 49 1 (.fn 15 [] [bx 2 0])),(10005,rb 0 s_Cand l1)],1⟩) n ⟨n,Nat.le_refl _,Nat.le_refl _,([] : List Cand),0,h,rfl⟩ (by rintro s ⟨q,hq,_,l1,i2,h,_⟩; obtain rfl:=Nat.le_zero.1 hq; rw [cands_Of_L0] at h; cases h) ?_
 clear h
 rintro k1 s ⟨q1,hk1,hn1,l1,i2,h,rfl⟩
 rcases q1 with _ | q1
 ·rw [cands_Of_L0] at h; cases h
 rw [cands_Of_L0] at h
 refine Qz hT 1 [1,2,5,6,13,14,15,16] ⟨[(1,po s_int a1),(2,bx 2 0),(5,vs 10005 0 s_Cand l1),(6,bx 6 0),(13,po s_int a1),(14,vi (ln a1)),(15,vi i2),(16,vb (decide (i2 < (ln a1))))],[(2,cb 0 26 2 (eProg a0)),(6,cb 0 49 1 (.fn 15 [] [bx 2 0])),(10005,rb 0 s_Cand l1)],1⟩ ?_
 refine WA_seq ?_
 refine Ci h (fun h=>?_) fun h=>?_
 ·refine WA_skip ?_
  refine WA_seq ?_
  obtain ⟨J4,hJ4,h⟩:=jsome h
  refine WA_join (fun s=>∃ (l3 : List Cand),J4 l3 = some r ∧ s = ⟨[(1,po s_int a1),(2,bx 2 0),(5,vs 10005 0 s_Cand l3),(6,bx 6 0),(13,po s_int a1),(14,vi (ln a1)),(15,vi i2)],[(2,cb 0 26 2 (eProg a0)),(6,cb 0 49 1 (.fn 15 [] [bx 2 0])),(10005,rb 0 s_Cand l3)],1⟩) ?_ ?_
  ·refine WA_block ?_
   refine Qgd hT 0 [1,2,5,6,13,14,15] [] ?_
   obtain ⟨x5,hx5,h⟩:=bsome h
   refine One' hT rfl (v_index s_int .opt a1 .i64 i2 hx5) ?_
   refine Szd hT 2 [1,2,5,6,8,13,14,15] [(8,vi x5)] ?_
   refine Qgd hT 2 [1,2,5,6,8,13,14,15,19,20] [(19,po s_int a1),(20,.fn 17 [] [bx 6 0])] ?_
   obtain ⟨r6,hr6,h⟩:=bsome h
   refine Ob [6,2] [po s_int a1,.fn 17 [] [bx 6 0]] [po s_int a1,.fn 17 [] [.ref (.fn 15 [] [.ref (eProg a0) 0]) 0]] (vb r6) en16 (ContainsFunc_int_fcands_Of_2_ok hr6) ?_
   refine Szd hT 2 [1,2,5,6,8,9,13,14,15] [(9,vb (!r6))] ?_
   refine WA_seq ?_
   obtain ⟨J8,hJ8,h⟩:=jsome h
   refine WA_join (fun s=>∃ (b7 : Bool),J8 b7 = some r ∧ s = ⟨[(1,po s_int a1),(2,bx 2 0),(5,vs 10005 0 s_Cand l1),(6,bx 6 0),(8,vi x5),(13,po s_int a1),(14,vi (ln a1)),(15,vi i2),(33,vb b7)],[(2,cb 0 26 2 (eProg a0)),(6,cb 0 49 1 (.fn 15 [] [bx 2 0])),(10005,rb 0 s_Cand l1)],1⟩) ?_ ?_
   ·refine Rgd hT 2 [1,2,5,6,8,9,13,14,15,23,24] [(23,.fn 15 [] [bx 2 0]),(24,vi x5)] ?_
    obtain ⟨r9,hr9,h⟩:=bsome h
    refine Ob [2] [vi x5,bx 2 0] [vi x5,.ref (eProg a0) 0] (vb r9) en15 (cands_Of_1_ok hr9) ?_
    refine Sgd hT 1 [1,2,5,6,8,9,13,14,15,26] [(26,vb r9)] ?_
    cases hb : (r9 : Bool)
    ·replace h:=cfalse hb h
     refine Sgd hT 7 [1,2,5,6,8,13,14,15,33] [(33,vb false)] ?_
     exact oK [1,2,5,6,8,13,14,15,33] [(2,2,0),(6,6,0),(10005,10005,0)] ⟨false,h,rfl⟩
    replace h:=ctrue hb h
    refine Sgd hT 1 [1,2,5,6,8,9,13,14,15,26,27] [(27,po s_int a1)] ?_
    refine One' hT rfl (v_len s_int .opt a1) ?_
    refine Sgd hT 2 [1,2,5,6,8,9,13,14,15,26,30] [(30,vb (decide ((ln a1) ≤ 8)))] ?_
    cases hb : (decide ((ln a1) ≤ 8) : Bool)
    ·replace h:=cfalse hb h
     refine Sgd hT 3 [1,2,5,6,8,13,14,15,33] [(33,vb (!r6))] ?_
     exact oK [1,2,5,6,8,13,14,15,33] [(2,2,0),(6,6,0),(10005,10005,0)] ⟨!r6,h,rfl⟩
    replace h:=ctrue hb h
    refine Sg hT 3 [1,2,5,6,8,13,14,15,33] ⟨[(1,po s_int a1),(2,bx 2 0),(5,vs 10005 0 s_Cand l1),(6,bx 6 0),(8,vi x5),(13,po s_int a1),(14,vi (ln a1)),(15,vi i2),(33,vb true)],[(2,cb 0 26 2 (eProg a0)),(6,cb 0 49 1 (.fn 15 [] [bx 2 0])),(10005,rb 0 s_Cand l1)],1⟩ ?_
    exact oK [1,2,5,6,8,13,14,15,33] [(2,2,0),(6,6,0),(10005,10005,0)] ⟨true,h,rfl⟩
   subst hJ8
   rintro s ⟨b7,h,rfl⟩
   skip
   refine Ci h (fun h=>?_) fun h=>?_
   ·refine WA_drawW hT hM (by kernel_rfl) ?_
    refine Ds 7 [(40,vi x5),(39,po s_Decl a0.Decls),(38,bx 2 0),(37,eProg a0),(36,.ps .full (s_int.F [x5])),(35,vi x5),(34,vs 10005 0 s_Cand l1)] [] [(3,[2]),(4,[2]),(5,[2])] ?_
    obtain ⟨x10,hx10,h⟩:=bsome h
    refine Dl rfl (v_index s_Decl .opt a0.Decls .i64 x5 hx10) ?_
    refine Dt (.ref (eDecl x10) 0) ?_
    refine Ds 2 [(43,vw x10.Name),(42,.ref (eDecl x10) 1)] [] [] ?_
    obtain ⟨r11,hr11,h⟩:=bsome h
    refine Dp [eProg a0,vw x10.Name] (vz r11) en18 (cost_Upgrade_ok hr11) ?_
    refine Ds 2 [(46,.ps .full (s_Cand.F [(Cand.mk false [x5] r11)])),(45,.agg [vb false,.ps .full (s_int.F [x5]),vz r11])] [] [] ?_
    obtain ⟨g12,h⟩:=gsome h
    refine Dw rfl (ev_append s_Cand 10005 0 true l1 [(Cand.mk false [x5] r11)] (by kernel_rfl) (by kernel_rfl) (by kernel_rfl) (by simp) g12) ?_
    refine Dh 1 [(5,vs 47 1 s_Cand (l1 ++ [(Cand.mk false [x5] r11)]))] [(47,⟨1,37,3,false,false,s_Cand.F (l1 ++ [(Cand.mk false [x5] r11)])⟩),(2,cb 0 26 2 (eProg a0)),(6,cb 0 49 1 (.fn 15 [] [bx 2 0]))] 2 [] [] ?_
    refine De ?_
    refine kW [1,2,5,6,13,14,15] ⟨[(1,po s_int a1),(2,bx 2 0),(5,vs 47 1 s_Cand (l1 ++ [(Cand.mk false [x5] r11)])),(6,bx 6 0),(13,po s_int a1),(14,vi (ln a1)),(15,vi i2)],[(47,⟨1,37,3,false,false,s_Cand.F (l1 ++ [(Cand.mk false [x5] r11)])⟩),(2,cb 0 26 2 (eProg a0)),(6,cb 0 49 1 (.fn 15 [] [bx 2 0]))],2⟩ ?_
    refine Wk_step (wL [(1,po s_int a1),(2,bx 2 0),(5,vs 47 1 s_Cand (l1 ++ [(Cand.mk false [x5] r11)])),(6,bx 6 0),(13,po s_int a1),(14,vi (ln a1)),(15,vi i2)] [(47,rb 1 s_Cand (l1 ++ [(Cand.mk false [x5] r11)])),(2,cb 0 26 2 (eProg a0)),(6,cb 0 49 1 (.fn 15 [] [bx 2 0]))] ⟨VLf.refl _,VLf.refl _,VLf.refl _,VLf.refl _,VLf.refl _,VLf.refl _,VLf.refl _,trivial⟩ ⟨rfl,.inr (.inr rfl),rfl,.inl rfl,rfl,.inl rfl,trivial⟩) ?_
    exact wR [(2,2,0),(6,6,0),(47,10005,0)] ⟨l1 ++ [(Cand.mk false [x5] r11)],h,rfl⟩
   exact sK [1,2,5,6,13,14,15] [(2,2,0),(6,6,0),(10005,10005,0)] ⟨l1,h,rfl⟩
  subst hJ4
  rintro s ⟨l3,h,rfl⟩
  skip
  refine Rgd hT 2 [1,2,5,6,13,14,15] [(15,vi (wr (i2 + 1)))] ?_
  exact oK [1,2,5,6,13,14,15] [(2,2,0),(6,6,0),(10005,10005,0)] ⟨_,by omega,by omega,l3,wr (i2 + 1),h,rfl⟩
 refine WA_exit ?_
 refine WA_seq ?_
 refine Qgd hT 1 [2,5,49] [(49,po s_int a1)] ?_
 obtain ⟨r13,hr13,h⟩:=bsome h
 refine Og [] [(100,rb 1 s_Lint r13)] [po s_int a1] [po s_int a1] [] [(100,50,1)] [(50,rb 1 s_Lint r13)] (vs 100 1 s_Lint r13) (vs 50 1 s_Lint r13) 2 en19 (cands_sets_ok hr13) ?_
 refine Sgh hT 0 [2,5,50] [(50,vs 50 1 s_Lint r13)] [(50,rb 1 s_Lint r13),(2,cb 0 26 2 (eProg a0)),(6,cb 0 49 1 (.fn 15 [] [bx 2 0])),(10005,rb 0 s_Cand l1)] 2 ?_
 refine One' hT rfl (v_len_own s_Lint 50 1 true (rb 1 s_Lint r13) r13) ?_
 refine Szd hT 1 [2,5,50,51,52] [(51,vi (ln r13)),(52,vi 0)] ?_
 refine WA_block ?_
 refine lK [2,5,50,51,52] [(2,2,0),(50,50,0),(10005,10005,0)] (fun k s=>∃ q,q ≤ k ∧ q ≤ q1 ∧ ∃ (l14 : List Cand),∃ (i15 : Int),cands_Of_L1 q a0 a1 l1 i2 r13 l14 i15 = some r ∧ s = ⟨[(2,bx 2 0),(5,vs 10005 0 s_Cand l14),(50,vs 50 0 s_Lint r13),(51,vi (ln r13)),(52,vi i15)],[(2,cb 0 26 2 (eProg a0)),(50,rb 0 s_Lint r13),(10005,rb 0 s_Cand l14)],1⟩) q1 ⟨q1,Nat.le_refl _,Nat.le_refl _,l1,0,h,rfl⟩ (by rintro s ⟨q,hq,_,l14,i15,h,_⟩; obtain rfl:=Nat.le_zero.1 hq; rw [cands_Of_L1] at h; cases h) ?_
 clear h
 rintro k2 s ⟨q2,hk2,hn2,l14,i15,h,rfl⟩
 rcases q2 with _ | q2
 ·rw [cands_Of_L1] at h; cases h
 rw [cands_Of_L1] at h
 refine Qzd hT 1 [2,5,50,51,52,53] [(53,vb (decide (i15 < (ln r13))))] ?_
 refine WA_seq ?_
 refine Ci h (fun h=>?_) fun h=>?_
 ·refine WA_skip ?_
  refine WA_seq ?_
  refine WA_block ?_
  refine Qgd hT 0 [2,5,50,51,52] [] ?_
  obtain ⟨x16,hx16,h⟩:=bsome h
  refine One' hT rfl (v_index_own s_Lint 50 0 true (rb 0 s_Lint r13) r13 .i64 i15 hx16) ?_
  refine Sgd hT 0 [2,5,50,51,52,54] [(54,.box 50 0 i15.toNat 0)] ?_
  refine One' hT rfl (v_load_row s_Lint 50 0 (rb 0 s_Lint r13) r13 i15.toNat 0 x16 (po s_int x16) (idx_some hx16).2) ?_
  refine Sz hT 1 [2,5,11,50,51,52] ⟨[(2,bx 2 0),(5,vs 10005 0 s_Cand l14),(11,po s_int x16),(50,vs 50 0 s_Lint r13),(51,vi (ln r13)),(52,vi i15)],[(2,cb 0 26 2 (eProg a0)),(50,rb 0 s_Lint r13),(10005,rb 0 s_Cand l14)],1⟩ ?_
  refine WA_drawW hT hM (by kernel_rfl) ?_
  refine Ds 2 [(57,po s_int x16),(56,vs 10005 0 s_Cand l14)] [] [] ?_
  obtain ⟨r17,hr17,h⟩:=bsome h
  refine Dp [po s_int x16] (po s_int r17) en21 (PT_of_GO (Clone_int_ok hr17)) ?_
  obtain ⟨r18,hr18,h⟩:=bsome h
  refine Dp [po s_int r17] (.ps .fopt (s_int.F r18)) en20 (Clip_int_ok hr18) ?_
  refine Ds 3 [(62,po s_int x16),(61,eProg a0),(60,eProg a0)] [] [(4,[2]),(5,[2])] ?_
  obtain ⟨r19,hr19,h⟩:=bsome h
  refine Dp [eProg a0,po s_int x16] (po s_string r19) en23 (PT_of_GO (cands_named_ok hr19)) ?_
  obtain ⟨r20,hr20,h⟩:=bsome h
  refine Dp [eProg a0,po s_string r19] (vz r20) en22 (cost_Guard_ok hr20) ?_
  refine Ds 2 [(66,.ps .full (s_Cand.F [(Cand.mk true r18 r20)])),(65,.agg [vb true,.ps .fopt (s_int.F r18),vz r20])] [] [] ?_
  obtain ⟨g21,h⟩:=gsome h
  refine Dw rfl (ev_append s_Cand 10005 0 true l14 [(Cand.mk true r18 r20)] (by kernel_rfl) (by kernel_rfl) (by kernel_rfl) (by simp) g21) ?_
  refine Dh 1 [(5,vs 67 1 s_Cand (l14 ++ [(Cand.mk true r18 r20)]))] [(67,⟨1,37,3,false,false,s_Cand.F (l14 ++ [(Cand.mk true r18 r20)])⟩),(2,cb 0 26 2 (eProg a0)),(50,rb 0 s_Lint r13)] 2 [] [] ?_
  refine De ?_
  refine Wk_done ?_
  refine Rgd hT 2 [2,5,50,51,52] [(52,vi (wr (i15 + 1)))] ?_
  refine oW [2,5,50,51,52] ⟨[(2,bx 2 0),(5,vs 67 1 s_Cand (l14 ++ [(Cand.mk true r18 r20)])),(50,vs 50 0 s_Lint r13),(51,vi (ln r13)),(52,vi (wr (i15 + 1)))],[(67,⟨1,37,3,false,false,s_Cand.F (l14 ++ [(Cand.mk true r18 r20)])⟩),(2,cb 0 26 2 (eProg a0)),(50,rb 0 s_Lint r13)],2⟩ ?_
  refine WO_weak (wL [(2,bx 2 0),(5,vs 67 1 s_Cand (l14 ++ [(Cand.mk true r18 r20)])),(50,vs 50 0 s_Lint r13),(51,vi (ln r13)),(52,vi (wr (i15 + 1)))] [(67,rb 1 s_Cand (l14 ++ [(Cand.mk true r18 r20)])),(2,cb 0 26 2 (eProg a0)),(50,rb 0 s_Lint r13)] ⟨VLf.refl _,VLf.refl _,VLf.refl _,VLf.refl _,VLf.refl _,trivial⟩ ⟨rfl,.inr (.inr rfl),rfl,.inl rfl,rfl,.inl rfl,trivial⟩) ?_
  exact oR [(2,2,0),(50,50,0),(67,10005,0)] ⟨_,by omega,by omega,l14 ++ [(Cand.mk true r18 r20)],wr (i15 + 1),h,rfl⟩
 refine WA_exit ?_
 refine Qgd hT 1 [69] [(69,vs 10005 0 s_Cand l14)] ?_
 refine WO_weak (wF 10005 0 (rb 0 s_Cand l14) [(69,po s_Cand l14)] [(2,cb 0 26 2 (eProg a0)),(50,rb 0 s_Lint r13)] ⟨rfl,.hit true,trivial⟩ ⟨rfl,.inl rfl,rfl,.inl rfl,trivial⟩) ?_
 obtain ⟨r22,hr22,h⟩:=bsome h
 refine Pt' en24 (Clip_Cand_ok hr22) ?_
 refine Szd hT 1 [4] [(4,.ps .fopt (s_Cand.F r22))] ?_
 obtain rfl:=Option.some.inj h
 exact rK [4] [] ⟨[(4,.ps .fopt (s_Cand.F r22))],[],1⟩ ⟨by kernel_rfl,rfl⟩
theorem law23_known_ok {n : Nat} {r : Bool} (h : law23_known n = some r) : PT Try.prog 9 [] (vb r):=by
 unfold law23_known at h
 refine PT_bodyA hT Try.func9 rfl (by kernel_rfl) fun bad w=>?_
 refine Qz hT 1 [] ⟨[],[],0⟩ ?_
 refine WA_seq ?_
 refine WA_region ?_
 obtain ⟨r1,hr1,h⟩:=bsome h
 refine Pt' en4 (law23_read_ok hr1) ?_
 refine Sg hT 1 [2,3] ⟨[(2,eProg r1),(3,vs 3 0 s_int [0,1])],[(3,⟨0,3,1,false,false,s_int.F [0,1]⟩)],1⟩ ?_
 refine WO_weak (wF 3 0 ⟨0,3,1,false,false,s_int.F [0,1]⟩ [(2,eProg r1),(3,po s_int [0,1])] [] ⟨rfl,.keep _,rfl,.hit true,trivial⟩ trivial) ?_
 obtain ⟨r2,hr2,h⟩:=bsome h
 refine Pt' en8 (cands_Of_ok hr2) ?_
 refine Sz hT 1 [1] ⟨[(1,.ps .fopt (s_Cand.F r2))],[],1⟩ ?_
 refine WA_seq ?_
 obtain ⟨J4,hJ4,h⟩:=jsome h
 refine WA_join (fun s=>∃ (b3 : Bool),J4 b3 = some r ∧ s = ⟨[(0,vb b3)],[],1⟩) ?_ ?_
 ·refine Rgd hT 1 [1,5] [(5,.ps .fopt (s_Cand.F r2))] ?_
  refine One' hT rfl (v_len s_Cand .fopt r2) ?_
  refine Sgd hT 2 [1,8] [(8,vb ((ln r2) == 4))] ?_
  cases hb : (((ln r2) == 4) : Bool)
  ·replace h:=cfalse hb h
   refine Sg hT 58 [0] ⟨[(0,vb false)],[],1⟩ ?_
   exact oK [0] [] ⟨false,h,rfl⟩
  replace h:=ctrue hb h
  refine Sgd hT 1 [1,8,9] [(9,.ps .fopt (s_Cand.F r2))] ?_
  obtain ⟨x5,hx5,h⟩:=bsome h
  refine One' hT rfl (v_index s_Cand .fopt r2 .i64 0 hx5) ?_
  refine Sgd hT 5 [1,15] [(15,vb (!x5.Guard))] ?_
  cases hb : (!x5.Guard : Bool)
  ·replace h:=cfalse hb h
   refine Sg hT 51 [0] ⟨[(0,vb false)],[],1⟩ ?_
   exact oK [0] [] ⟨false,h,rfl⟩
  replace h:=ctrue hb h
  refine Sgd hT 1 [1,15,16] [(16,.ps .fopt (s_Cand.F r2))] ?_
  obtain ⟨x6,hx6,h⟩:=bsome h
  refine One' hT rfl (v_index s_Cand .fopt r2 .i64 0 hx6) ?_
  refine Sgd hT 2 [1,15,19] [(19,po s_int x6.Names)] ?_
  refine One' hT rfl (v_len s_int .opt x6.Names) ?_
  refine Sgd hT 3 [1,23] [(23,vb ((ln x6.Names) == 1))] ?_
  cases hb : (((ln x6.Names) == 1) : Bool)
  ·replace h:=cfalse hb h
   refine Sg hT 43 [0] ⟨[(0,vb false)],[],1⟩ ?_
   exact oK [0] [] ⟨false,h,rfl⟩
  replace h:=ctrue hb h
  refine Sgd hT 1 [1,23,24] [(24,.ps .fopt (s_Cand.F r2))] ?_
  obtain ⟨x7,hx7,h⟩:=bsome h
  refine One' hT rfl (v_index s_Cand .fopt r2 .i64 0 hx7) ?_
  refine Sgd hT 2 [1,23,27] [(27,po s_int x7.Names)] ?_
  obtain ⟨x8,hx8,h⟩:=bsome h
  refine One' hT rfl (v_index s_int .opt x7.Names .i64 0 hx8) ?_
  refine Sgd hT 4 [1,32] [(32,vb (x8 == 0))] ?_
  cases hb : ((x8 == 0) : Bool)
  ·replace h:=cfalse hb h
   refine Sg hT 34 [0] ⟨[(0,vb false)],[],1⟩ ?_
   exact oK [0] [] ⟨false,h,rfl⟩
  replace h:=ctrue hb h
  refine Sgd hT 1 [1,32,33] [(33,.ps .fopt (s_Cand.F r2))] ?_
  obtain ⟨x9,hx9,h⟩:=bsome h
  refine One' hT rfl (v_index s_Cand .fopt r2 .i64 0 hx9) ?_
  refine Sg hT 5 [1,39] ⟨[(1,.ps .fopt (s_Cand.F r2)),(39,vb ((FloatKind.f64.format.order x9.Cost.re (⟨4611686018427387904,4607182418800017408⟩ : Cx).re == some .eq) && (FloatKind.f64.format.order x9.Cost.im (⟨4611686018427387904,4607182418800017408⟩ : Cx).im == some .eq)))],[],1⟩ ?_
  cases hb : (((FloatKind.f64.format.order x9.Cost.re (⟨4611686018427387904,4607182418800017408⟩ : Cx).re == some .eq) && (FloatKind.f64.format.order x9.Cost.im (⟨4611686018427387904,4607182418800017408⟩ : Cx).im == some .eq)) : Bool)
  ·replace h:=cfalse hb h
   refine Sg hT 27 [0] ⟨[(0,vb false)],[],1⟩ ?_
   exact oK [0] [] ⟨false,h,rfl⟩
  replace h:=ctrue hb h
  refine Sgd hT 1 [1,39,40] [(40,.ps .fopt (s_Cand.F r2))] ?_
  obtain ⟨x10,hx10,h⟩:=bsome h
  refine One' hT rfl (v_index s_Cand .fopt r2 .i64 1 hx10) ?_
  refine Sgd hT 4 [1,45] [(45,vb x10.Guard)] ?_
  cases hb : (x10.Guard : Bool)
  ·replace h:=cfalse hb h
   refine Sg hT 21 [0] ⟨[(0,vb false)],[],1⟩ ?_
   exact oK [0] [] ⟨false,h,rfl⟩
  replace h:=ctrue hb h
  refine Sgd hT 1 [1,45,46] [(46,.ps .fopt (s_Cand.F r2))] ?_
  obtain ⟨x11,hx11,h⟩:=bsome h
  refine One' hT rfl (v_index s_Cand .fopt r2 .i64 3 hx11) ?_
  refine Sgd hT 4 [1,51] [(51,vb x11.Guard)] ?_
  cases hb : (x11.Guard : Bool)
  ·replace h:=cfalse hb h
   refine Sg hT 15 [0] ⟨[(0,vb false)],[],1⟩ ?_
   exact oK [0] [] ⟨false,h,rfl⟩
  replace h:=ctrue hb h
  refine Sgd hT 1 [1,51,52] [(52,.ps .fopt (s_Cand.F r2))] ?_
  obtain ⟨x12,hx12,h⟩:=bsome h
  refine One' hT rfl (v_index s_Cand .fopt r2 .i64 3 hx12) ?_
  refine Sgd hT 2 [1,51,55] [(55,po s_int x12.Names)] ?_
  refine One' hT rfl (v_len s_int .opt x12.Names) ?_
  refine Sgd hT 3 [1,59] [(59,vb ((ln x12.Names) == 2))] ?_
  cases hb : (((ln x12.Names) == 2) : Bool)
  ·replace h:=cfalse hb h
   refine Sg hT 7 [0] ⟨[(0,vb false)],[],1⟩ ?_
   exact oK [0] [] ⟨false,h,rfl⟩
  replace h:=ctrue hb h
  refine Sg hT 1 [59,60] ⟨[(59,vb true),(60,.ps .fopt (s_Cand.F r2))],[],1⟩ ?_
  obtain ⟨x13,hx13,h⟩:=bsome h
  refine One' hT rfl (v_index s_Cand .fopt r2 .i64 3 hx13) ?_
  refine Sg hT 5 [0] ⟨[(0,vb ((FloatKind.f64.format.order x13.Cost.re (⟨4616189618054758400,4607182418800017408⟩ : Cx).re == some .eq) && (FloatKind.f64.format.order x13.Cost.im (⟨4616189618054758400,4607182418800017408⟩ : Cx).im == some .eq)))],[],1⟩ ?_
  exact oK [0] [] ⟨((FloatKind.f64.format.order x13.Cost.re (⟨4616189618054758400,4607182418800017408⟩ : Cx).re == some .eq) && (FloatKind.f64.format.order x13.Cost.im (⟨4616189618054758400,4607182418800017408⟩ : Cx).im == some .eq)),h,rfl⟩
 subst hJ4
 rintro s ⟨b3,h,rfl⟩
 obtain rfl:=Option.some.inj h
 exact rK [0] [] ⟨[(0,vb b3)],[],1⟩ ⟨by kernel_rfl,rfl⟩
theorem law23_same_ok {n : Nat} {a0 : List Int} {a1 : List Int} {r : Bool} (h : law23_same n a0 a1 = some r) : PT Try.prog 10 [po s_int a0,po s_int a1] (vb r):=by
 unfold law23_same at h
 refine PT_bodyA hT Try.func10 rfl (by kernel_rfl) fun bad w=>?_
 refine Qzd hT 1 [0,1] [] ?_
 refine WA_seq ?_
 refine Qgd hT 1 [0,1,6] [(6,po s_int a0)] ?_
 refine One' hT rfl (v_len s_int .opt a0) ?_
 refine Sgd hT 1 [0,1,7,8] [(7,vi (ln a0)),(8,po s_int a1)] ?_
 refine One' hT rfl (v_len s_int .opt a1) ?_
 refine Szd hT 1 [0,1,10] [(10,vb ((ln a0) != (ln a1)))] ?_
 refine Ci h (fun h=>?_) fun h=>?_
 ·refine Qz hT 1 [4] ⟨[(4,vb false)],[],0⟩ ?_
  obtain rfl:=Option.some.inj h
  exact rK [4] [] ⟨[(4,vb false)],[],1⟩ ⟨by kernel_rfl,rfl⟩
 refine WA_skip ?_
 refine WA_seq ?_
 refine Qgd hT 1 [0,1,11] [(11,po s_int a0)] ?_
 refine One' hT rfl (v_len s_int .opt a0) ?_
 refine Szd hT 1 [0,1,12,13] [(12,vi (ln a0)),(13,vi 0)] ?_
 refine WA_block ?_
 refine lK [0,1,12,13] [] (fun k s=>∃ q,q ≤ k ∧ q ≤ n ∧ ∃ (i1 : Int),law23_same_L0 q a0 a1 i1 = some r ∧ s = ⟨[(0,po s_int a0),(1,po s_int a1),(12,vi (ln a0)),(13,vi i1)],[],1⟩) n ⟨n,Nat.le_refl _,Nat.le_refl _,0,h,rfl⟩ (by rintro s ⟨q,hq,_,i1,h,_⟩; obtain rfl:=Nat.le_zero.1 hq; rw [law23_same_L0] at h; cases h) ?_
 clear h
 rintro k1 s ⟨q1,hk1,hn1,i1,h,rfl⟩
 rcases q1 with _ | q1
 ·rw [law23_same_L0] at h; cases h
 rw [law23_same_L0] at h
 refine Qzd hT 1 [0,1,12,13,14] [(14,vb (decide (i1 < (ln a0))))] ?_
 refine WA_seq ?_
 refine Ci h (fun h=>?_) fun h=>?_
 ·refine WA_skip ?_
  refine WA_seq ?_
  refine WA_block ?_
  refine Qzd hT 2 [0,1,5,12,13] [(5,vi i1)] ?_
  refine WA_seq ?_
  refine WA_drawW hT hM (by kernel_rfl) ?_
  refine Ds 2 [(17,vi i1),(16,po s_int a0)] [] [] ?_
  obtain ⟨x2,hx2,h⟩:=bsome h
  refine Dl rfl (v_index s_int .opt a0 .i64 i1 hx2) ?_
  refine Dt (.ref (e_i64 x2) 0) ?_
  refine Ds 3 [(21,vi i1),(20,po s_int a1),(19,vi x2)] [] [] ?_
  obtain ⟨x3,hx3,h⟩:=bsome h
  refine Dl rfl (v_index s_int .opt a1 .i64 i1 hx3) ?_
  refine Dt (.ref (e_i64 x3) 0) ?_
  refine Ds 2 [(24,vb (x2 != x3)),(23,vi x3)] [] [] ?_
  refine De ?_
  refine Wk_done ?_
  refine Ci h (fun h=>?_) fun h=>?_
  ·refine Qz hT 1 [4] ⟨[(4,vb false)],[],1⟩ ?_
   obtain rfl:=Option.some.inj h
   exact rK [4] [] ⟨[(4,vb false)],[],1⟩ ⟨by kernel_rfl,rfl⟩
  refine WA_skip ?_
  refine Rgd hT 2 [0,1,12,13] [(13,vi (wr (i1 + 1)))] ?_
  exact oK [0,1,12,13] [] ⟨_,by omega,by omega,wr (i1 + 1),h,rfl⟩
 refine WA_exit ?_
 refine Qz hT 1 [4] ⟨[(4,vb true)],[],1⟩ ?_
 obtain rfl:=Option.some.inj h
 exact rK [4] [] ⟨[(4,vb true)],[],1⟩ ⟨by kernel_rfl,rfl⟩
theorem law23_CandsEach_ok {n : Nat} {a0 : Int} {a1 : List Act} {a2 : List Act} {a3 : Int} {r : Bool} (h : law23_CandsEach n a0 a1 a2 a3 = some r) : PT Try.prog 3 [vi a0,po s_Act a1,po s_Act a2,vi a3] (vb r):=by
 unfold law23_CandsEach at h
 refine PT_bodyA hT Try.func3 rfl (by kernel_rfl) fun bad w=>?_
 refine Qzd hT 1 [0,1,2,3] [] ?_
 refine Qg hT 3 [3,27,28,29] ⟨[(3,vi a3),(27,vi a0),(28,po s_Act a1),(29,po s_Act a2)],[],0⟩ ?_
 obtain ⟨r1,hr1,h⟩:=bsome h
 refine Pt' (vs:=[vi a0,po s_Act a1,po s_Act a2,vn,vi 4]) en5 (PT_args ((hand_Good_ok hr1)) ⟨VLe.refl _,VLe.refl _,VLe.refl _,VLe.nil_opt,VLe.refl _,trivial⟩) ?_
 refine Sg hT 0 [3,30] ⟨[(3,vi a3),(30,vw r1)],[],0⟩ ?_
 obtain ⟨r2,hr2,h⟩:=bsome h
 refine Pt' en4 (law23_read_ok hr2) ?_
 refine Sz hT 2 [3,9] ⟨[(3,vi a3),(9,bx 9 0)],[(9,cb 0 26 2 (eProg r2))],1⟩ ?_
 refine WA_seq ?_
 refine WA_drawW hT hM (by kernel_rfl) ?_
 refine Ds 2 [(33,vi a3),(32,eProg r2)] [] [(0,[9])] ?_
 obtain ⟨r3,hr3,h⟩:=bsome h
 refine Dp [vi a3,vi 256] (vi r3) en7 (hand_Pick_ok hr3) ?_
 obtain ⟨r4,hr4,h⟩:=bsome h
 refine Dg [] [(100,rb 1 s_int r4)] [eProg r2,vi r3] [eProg r2,vi r3] [] [(100,35,1)] [(35,rb 1 s_int r4)] (vs 100 1 s_int r4) (vs 35 1 s_int r4) 2 en6 (law23_racy_ok hr4) ?_
 refine Dh 1 [(10,vs 35 1 s_int r4)] [(35,rb 1 s_int r4),(9,cb 0 26 2 (eProg r2))] 2 [] [] ?_
 refine De ?_
 refine Wk_done ?_
 refine Qgd hT 2 [9,10,36,37] [(36,eProg r2),(37,vs 35 1 s_int r4)] ?_
 refine WO_weak (wF 35 1 (rb 1 s_int r4) [(9,bx 9 0),(10,po s_int r4),(36,eProg r2),(37,po s_int r4)] [(9,cb 0 26 2 (eProg r2))] ⟨rfl,.keep _,rfl,.hit true,rfl,.keep _,rfl,.hit true,trivial⟩ ⟨rfl,.inl rfl,trivial⟩) ?_
 obtain ⟨r5,hr5,h⟩:=bsome h
 refine Pt' en8 (cands_Of_ok hr5) ?_
 refine Szd hT 1 [9,10,11] [(11,.ps .fopt (s_Cand.F r5))] ?_
 refine WA_seq ?_
 refine WA_seq ?_
 obtain ⟨J7,hJ7,h⟩:=jsome h
 refine WA_join (fun s=>∃ (b6 : Bool),J7 b6 = some r ∧ s = ⟨[(9,bx 9 0),(10,po s_int r4),(11,.ps .fopt (s_Cand.F r5)),(45,vb b6)],[(9,cb 0 26 2 (eProg r2))],1⟩) ?_ ?_
 ·refine WA_region ?_
  obtain ⟨r8,hr8,h⟩:=bsome h
  refine Pt' en9 (law23_known_ok hr8) ?_
  refine Sgd hT 2 [9,10,11,41] [(41,vb (!r8))] ?_
  cases hb : (!r8 : Bool)
  ·replace h:=cfalse hb h
   refine Sgd hT 1 [9,10,11,41,42] [(42,po s_int r4)] ?_
   refine One' hT rfl (v_len s_int .opt r4) ?_
   refine Sg hT 2 [9,10,11,45] ⟨[(9,bx 9 0),(10,po s_int r4),(11,.ps .fopt (s_Cand.F r5)),(45,vb (decide ((ln r4) > 4)))],[(9,cb 0 26 2 (eProg r2))],2⟩ ?_
   exact oK [9,10,11,45] [(9,9,0)] ⟨decide ((ln r4) > 4),h,rfl⟩
  replace h:=ctrue hb h
  refine Sgd hT 4 [9,10,11,45] [(45,vb true)] ?_
  exact oK [9,10,11,45] [(9,9,0)] ⟨true,h,rfl⟩
 subst hJ7
 rintro s ⟨b6,h,rfl⟩
 refine Ci h (fun h=>?_) fun h=>?_
 ·refine Qzd hT 1 [8] [(8,vb false)] ?_
  obtain rfl:=Option.some.inj h
  exact rK [8] [] ⟨[(8,vb false)],[],1⟩ ⟨by kernel_rfl,rfl⟩
 refine WA_skip ?_
 refine WA_seq ?_
 refine Qgd hT 1 [9,10,11,46] [(46,po s_int r4)] ?_
 refine One' hT rfl (v_len s_int .opt r4) ?_
 refine Szd hT 1 [9,10,11,46,47,48] [(47,vi (ln r4)),(48,vi 0)] ?_
 refine WA_block ?_
 refine lK [9,10,11,46,47,48] [(9,9,0)] (fun k s=>∃ q,q ≤ k ∧ q ≤ n ∧ ∃ (i9 : Int),law23_CandsEach_L0 q a0 a1 a2 a3 r1 r2 r3 r4 r5 b6 i9 = some r ∧ s = ⟨[(9,bx 9 0),(10,po s_int r4),(11,.ps .fopt (s_Cand.F r5)),(46,po s_int r4),(47,vi (ln r4)),(48,vi i9)],[(9,cb 0 26 2 (eProg r2))],1⟩) n ⟨n,Nat.le_refl _,Nat.le_refl _,0,h,rfl⟩ (by rintro s ⟨q,hq,_,i9,h,_⟩; obtain rfl:=Nat.le_zero.1 hq; rw [law23_CandsEach_L0] at h; cases h) ?_
 clear h
 rintro k1 s ⟨q1,hk1,hn1,i9,h,rfl⟩
 rcases q1 with _ | q1
 ·rw [law23_CandsEach_L0] at h; cases h
 rw [law23_CandsEach_L0] at h
 refine Qzd hT 1 [9,10,11,46,47,48,49] [(49,vb (decide (i9 < (ln r4))))] ?_
 refine WA_seq ?_
 refine Ci h (fun h=>?_) fun h=>?_
 ·refine WA_skip ?_
  refine WA_seq ?_
  refine WA_block ?_
  refine Qgd hT 0 [9,10,11,46,47,48] [] ?_
  obtain ⟨x10,hx10,h⟩:=bsome h
  refine One' hT rfl (v_index s_int .opt r4 .i64 i9 hx10) ?_
  refine Szd hT 2 [9,10,11,13,46,47,48] [(13,vi x10)] ?_
  refine Qzd hT 1 [9,10,11,13,14,46,47,48] [(14,vi 0)] ?_
  refine Qz hT 1 [9,10,11,13,14,15,46,47,48] ⟨[(9,bx 9 0),(10,po s_int r4),(11,.ps .fopt (s_Cand.F r5)),(13,vi x10),(14,vi 0),(15,vi 0),(46,po s_int r4),(47,vi (ln r4)),(48,vi i9)],[(9,cb 0 26 2 (eProg r2))],1⟩ ?_
  refine WA_seq ?_
  refine Qgd hT 1 [9,10,11,13,14,15,46,47,48,52] [(52,.ps .fopt (s_Cand.F r5))] ?_
  refine One' hT rfl (v_len s_Cand .fopt r5) ?_
  refine Szd hT 1 [9,10,11,13,14,15,46,47,48,52,53,54] [(53,vi (ln r5)),(54,vi 0)] ?_
  refine WA_block ?_
  refine lK [9,10,11,13,14,15,46,47,48,52,53,54] [(9,9,0)] (fun k s=>∃ q,q ≤ k ∧ q ≤ q1 ∧ ∃ (i11 : Int),∃ (i12 : Int),∃ (i13 : Int),law23_CandsEach_L1 q a0 a1 a2 a3 r1 r2 r3 r4 r5 b6 i9 x10 i11 i12 i13 = some r ∧ s = ⟨[(9,bx 9 0),(10,po s_int r4),(11,.ps .fopt (s_Cand.F r5)),(13,vi x10),(14,vi i11),(15,vi i12),(46,po s_int r4),(47,vi (ln r4)),(48,vi i9),(52,.ps .fopt (s_Cand.F r5)),(53,vi (ln r5)),(54,vi i13)],[(9,cb 0 26 2 (eProg r2))],1⟩) q1 ⟨q1,Nat.le_refl _,Nat.le_refl _,0,0,0,h,rfl⟩ (by rintro s ⟨q,hq,_,i11,i12,i13,h,_⟩; obtain rfl:=Nat.le_zero.1 hq; rw [law23_CandsEach_L1] at h; cases h) ?_
  clear h
  rintro k2 s ⟨q2,hk2,hn2,i11,i12,i13,h,rfl⟩
  rcases q2 with _ | q2
  ·rw [law23_CandsEach_L1] at h; cases h
  rw [law23_CandsEach_L1] at h
  refine Qzd hT 1 [9,10,11,13,14,15,46,47,48,52,53,54,55] [(55,vb (decide (i13 < (ln r5))))] ?_
  refine WA_seq ?_
  refine Ci h (fun h=>?_) fun h=>?_
  ·refine WA_skip ?_
   refine WA_seq ?_
   obtain ⟨J16,hJ16,h⟩:=jsome h
   refine WA_join (fun s=>∃ (i14 : Int),∃ (i15 : Int),J16 i14 i15 = some r ∧ s = ⟨[(9,bx 9 0),(10,po s_int r4),(11,.ps .fopt (s_Cand.F r5)),(13,vi x10),(14,vi i14),(15,vi i15),(46,po s_int r4),(47,vi (ln r4)),(48,vi i9),(52,.ps .fopt (s_Cand.F r5)),(53,vi (ln r5)),(54,vi i13)],[(9,cb 0 26 2 (eProg r2))],1⟩) ?_ ?_
   ·refine WA_block ?_
    refine Qgd hT 0 [9,10,11,13,14,15,46,47,48,52,53,54] [] ?_
    obtain ⟨x17,hx17,h⟩:=bsome h
    refine One' hT rfl (v_index s_Cand .fopt r5 .i64 i13 hx17) ?_
    refine Szh hT 3 [9,10,11,13,14,15,17,46,47,48,52,53,54] [(17,bx 17 1)] [(17,cb 1 37 3 (eCand x17)),(9,cb 0 26 2 (eProg r2))] 2 ?_
    refine WA_seq ?_
    obtain ⟨J19,hJ19,h⟩:=jsome h
    refine WA_join (fun s=>∃ (b18 : Bool),J19 b18 = some r ∧ s = ⟨[(9,bx 9 0),(10,po s_int r4),(11,.ps .fopt (s_Cand.F r5)),(13,vi x10),(14,vi i11),(15,vi i12),(17,bx 17 0),(46,po s_int r4),(47,vi (ln r4)),(48,vi i9),(52,.ps .fopt (s_Cand.F r5)),(53,vi (ln r5)),(54,vi i13),(69,vb b18)],[(9,cb 0 26 2 (eProg r2)),(17,cb 0 37 3 (eCand x17))],1⟩) ?_ ?_
    ·refine Rg hT 2 [9,10,11,13,14,15,17,46,47,48,52,53,54,59] ⟨[(9,bx 9 0),(10,po s_int r4),(11,.ps .fopt (s_Cand.F r5)),(13,vi x10),(14,vi i11),(15,vi i12),(17,bx 17 1),(46,po s_int r4),(47,vi (ln r4)),(48,vi i9),(52,.ps .fopt (s_Cand.F r5)),(53,vi (ln r5)),(54,vi i13),(59,po s_int x17.Names)],[(17,cb 1 37 3 (eCand x17)),(9,cb 0 26 2 (eProg r2))],2⟩ ?_
     refine One' hT rfl (v_len s_int .opt x17.Names) ?_
     refine Sgd hT 2 [9,10,11,13,14,15,17,46,47,48,52,53,54,62] [(62,vb ((ln x17.Names) == 1))] ?_
     cases hb : (((ln x17.Names) == 1) : Bool)
     ·replace h:=cfalse hb h
      refine Sgd hT 7 [9,10,11,13,14,15,17,46,47,48,52,53,54,69] [(69,vb false)] ?_
      exact oK [9,10,11,13,14,15,17,46,47,48,52,53,54,69] [(9,9,0),(17,17,0)] ⟨false,h,rfl⟩
     replace h:=ctrue hb h
     refine Sgd hT 2 [9,10,11,13,14,15,17,46,47,48,52,53,54,62,64] [(64,po s_int x17.Names)] ?_
     obtain ⟨x20,hx20,h⟩:=bsome h
     refine One' hT rfl (v_index s_int .opt x17.Names .i64 0 hx20) ?_
     refine Sgd hT 4 [9,10,11,13,14,15,17,46,47,48,52,53,54,69] [(69,vb (x20 == x10))] ?_
     exact oK [9,10,11,13,14,15,17,46,47,48,52,53,54,69] [(9,9,0),(17,17,0)] ⟨(x20 == x10),h,rfl⟩
    subst hJ19
    rintro s ⟨b18,h,rfl⟩
    skip
    refine Ci h (fun h=>?_) fun h=>?_
    ·refine Qzd hT 2 [9,10,11,13,14,15,46,47,48,52,53,54,71] [(71,vb x17.Guard)] ?_
     refine Ci h (fun h=>?_) fun h=>?_
     ·refine Rgd hT 3 [9,10,11,13,14,15,46,47,48,52,53,54] [(14,vi (wr (i11 + 1)))] ?_
      exact oK [9,10,11,13,14,15,46,47,48,52,53,54] [(9,9,0)] ⟨wr (i11 + 1),i12,h,rfl⟩
     refine Rgd hT 3 [9,10,11,13,14,15,46,47,48,52,53,54] [(15,vi (wr (i12 + 1)))] ?_
     exact oK [9,10,11,13,14,15,46,47,48,52,53,54] [(9,9,0)] ⟨i11,wr (i12 + 1),h,rfl⟩
    exact sK [9,10,11,13,14,15,46,47,48,52,53,54] [(9,9,0)] ⟨i11,i12,h,rfl⟩
   subst hJ16
   rintro s ⟨i14,i15,h,rfl⟩
   skip
   refine Rgd hT 2 [9,10,11,13,14,15,46,47,48,52,53,54] [(54,vi (wr (i13 + 1)))] ?_
   exact oK [9,10,11,13,14,15,46,47,48,52,53,54] [(9,9,0)] ⟨_,by omega,by omega,i14,i15,wr (i13 + 1),h,rfl⟩
  refine WA_exit ?_
  refine WA_seq ?_
  obtain ⟨J22,hJ22,h⟩:=jsome h
  refine WA_join (fun s=>∃ (b21 : Bool),J22 b21 = some r ∧ s = ⟨[(9,bx 9 0),(10,po s_int r4),(11,.ps .fopt (s_Cand.F r5)),(46,po s_int r4),(47,vi (ln r4)),(48,vi i9),(94,vb b21)],[(9,cb 0 26 2 (eProg r2))],1⟩) ?_ ?_
  ·refine Rgd hT 3 [9,10,11,13,15,46,47,48,79] [(79,vb (i11 != 1))] ?_
   cases hb : ((i11 != 1) : Bool)
   ·replace h:=cfalse hb h
    refine Sgd hT 5 [9,10,11,15,46,47,48,79,81,83,84] [(81,vb (i12 == 1)),(83,po s_Decl r2.Decls),(84,vi x10)] ?_
    obtain ⟨x23,hx23,h⟩:=bsome h
    refine One' hT rfl (v_index s_Decl .opt r2.Decls .i64 x10 hx23) ?_
    refine Sgd hT 6 [9,10,11,15,46,47,48,91] [(91,vb (!((i12 == 1) == (x23.Kind == 1))))] ?_
    cases hb : (!((i12 == 1) == (x23.Kind == 1)) : Bool)
    ·replace h:=cfalse hb h
     refine Sg hT 3 [9,10,11,46,47,48,94] ⟨[(9,bx 9 0),(10,po s_int r4),(11,.ps .fopt (s_Cand.F r5)),(46,po s_int r4),(47,vi (ln r4)),(48,vi i9),(94,vb (decide (i12 > 1)))],[(9,cb 0 26 2 (eProg r2))],1⟩ ?_
     exact oK [9,10,11,46,47,48,94] [(9,9,0)] ⟨decide (i12 > 1),h,rfl⟩
    replace h:=ctrue hb h
    refine Sgd hT 3 [9,10,11,46,47,48,94] [(94,vb true)] ?_
    exact oK [9,10,11,46,47,48,94] [(9,9,0)] ⟨true,h,rfl⟩
   replace h:=ctrue hb h
   refine Sgd hT 15 [9,10,11,46,47,48,94] [(94,vb true)] ?_
   exact oK [9,10,11,46,47,48,94] [(9,9,0)] ⟨true,h,rfl⟩
  subst hJ22
  rintro s ⟨b21,h,rfl⟩
  skip
  refine Ci h (fun h=>?_) fun h=>?_
  ·refine Qzd hT 1 [8] [(8,vb false)] ?_
   obtain rfl:=Option.some.inj h
   exact rK [8] [] ⟨[(8,vb false)],[],1⟩ ⟨by kernel_rfl,rfl⟩
  refine WA_skip ?_
  refine Rgd hT 2 [9,10,11,46,47,48] [(48,vi (wr (i9 + 1)))] ?_
  exact oK [9,10,11,46,47,48] [(9,9,0)] ⟨_,by omega,by omega,wr (i9 + 1),h,rfl⟩
 refine WA_exit ?_
 refine WA_seq ?_
 refine Qgd hT 1 [10,11,96] [(96,.ps .fopt (s_Cand.F r5))] ?_
 refine One' hT rfl (v_len s_Cand .fopt r5) ?_
 refine Szd hT 1 [10,11,96,97,98] [(97,vi (ln r5)),(98,vi 0)] ?_
 refine WA_block ?_
 refine lK [10,11,96,97,98] [] (fun k s=>∃ q,q ≤ k ∧ q ≤ q1 ∧ ∃ (i24 : Int),law23_CandsEach_L2 q a0 a1 a2 a3 r1 r2 r3 r4 r5 b6 i9 i24 = some r ∧ s = ⟨[(10,po s_int r4),(11,.ps .fopt (s_Cand.F r5)),(96,.ps .fopt (s_Cand.F r5)),(97,vi (ln r5)),(98,vi i24)],[],1⟩) q1 ⟨q1,Nat.le_refl _,Nat.le_refl _,0,h,rfl⟩ (by rintro s ⟨q,hq,_,i24,h,_⟩; obtain rfl:=Nat.le_zero.1 hq; rw [law23_CandsEach_L2] at h; cases h) ?_
 clear h
 rintro k2 s ⟨q2,hk2,hn2,i24,h,rfl⟩
 rcases q2 with _ | q2
 ·rw [law23_CandsEach_L2] at h; cases h
 rw [law23_CandsEach_L2] at h
 refine Qzd hT 1 [10,11,96,97,98,99] [(99,vb (decide (i24 < (ln r5))))] ?_
 refine WA_seq ?_
 refine Ci h (fun h=>?_) fun h=>?_
 ·refine WA_skip ?_
  refine WA_seq ?_
  refine WA_block ?_
  refine Qgd hT 1 [10,11,96,97,98,100] [(100,vi i24)] ?_
  obtain ⟨x25,hx25,h⟩:=bsome h
  refine One' hT rfl (v_index s_Cand .fopt r5 .i64 i24 hx25) ?_
  refine Szh hT 4 [10,11,18,19,96,97,98] [(18,vi i24),(19,bx 19 1)] [(19,cb 1 37 3 (eCand x25))] 2 ?_
  refine WA_seq ?_
  refine WA_seq ?_
  obtain ⟨J27,hJ27,h⟩:=jsome h
  refine WA_join (fun s=>∃ (b26 : Bool),J27 b26 = some r ∧ s = ⟨[(10,po s_int r4),(11,.ps .fopt (s_Cand.F r5)),(18,vi i24),(19,bx 19 0),(96,.ps .fopt (s_Cand.F r5)),(97,vi (ln r5)),(98,vi i24),(137,vb b26)],[(19,cb 0 37 3 (eCand x25))],1⟩) ?_ ?_
  ·refine WA_drawW hT hM (by kernel_rfl) ?_
   refine Ds 2 [(104,po s_int x25.Names),(103,.box 19 1 0 1)] [] [(0,[19]),(1,[19])] ?_
   refine Dl rfl (v_len s_int .opt x25.Names) ?_
   refine Dt (vi (ln x25.Names)) ?_
   refine Ds 2 [(107,vb ((ln x25.Names) == 0)),(106,vb ((ln x25.Names) == 0))] [] [] ?_
   cases hb : (((ln x25.Names) == 0) : Bool)
   ·replace h:=cfalse hb h
    refine Ds 4 [(111,vb (!x25.Guard)),(110,vb (!x25.Guard)),(109,vb x25.Guard),(108,bx 19 1)] [] [(5,[19]),(6,[19])] ?_
    cases hb : (!x25.Guard : Bool)
    ·replace h:=cfalse hb h
     refine Ds 10 [(121,vb (decide (i24 > 0))),(120,vb (decide (i24 > 0))),(119,vi i24),(118,vb false),(117,vb false),(116,vb false),(115,vU),(114,vU),(113,vU),(112,vU)] [] [] ?_
     cases hb : (decide (i24 > 0) : Bool)
     ·replace h:=cfalse hb h
      refine Ds 16 [(137,vb false),(136,vb false),(135,vU),(134,vU),(133,vU),(132,vb false),(131,vb false),(130,vU),(129,vU),(128,vU),(127,vU),(126,vU),(125,vU),(124,vU),(123,vU),(122,vU)] [] [] ?_
      refine De ?_
      exact wK [10,11,18,19,96,97,98,137] [(19,19,0)] ⟨false,h,rfl⟩
     replace h:=ctrue hb h
     refine Ds 5 [(126,vi (wr (i24 - 1))),(125,vi i24),(124,.ps .fopt (s_Cand.F r5)),(123,vb x25.Guard),(122,bx 19 1)] [] [(19,[19]),(20,[19])] ?_
     obtain ⟨x28,hx28,h⟩:=bsome h
     refine Dl rfl (v_index s_Cand .fopt r5 .i64 (wr (i24 - 1)) hx28) ?_
     refine Dt (.ref (eCand x28) 0) ?_
     refine Ds 5 [(132,vb (!(x25.Guard == x28.Guard))),(131,vb (!(x25.Guard == x28.Guard))),(130,vb (!(x25.Guard == x28.Guard))),(129,vb x28.Guard),(128,.ref (eCand x28) 0)] [] [] ?_
     cases hb : (!(x25.Guard == x28.Guard) : Bool)
     ·replace h:=cfalse hb h
      refine Ds 5 [(137,vb false),(136,vb false),(135,vU),(134,vU),(133,vU)] [] [] ?_
      refine De ?_
      exact wK [10,11,18,19,96,97,98,137] [(19,19,0)] ⟨false,h,rfl⟩
     replace h:=ctrue hb h
     refine Ds 5 [(137,vb (!x25.Guard)),(136,vb (!x25.Guard)),(135,vb (!x25.Guard)),(134,vb x25.Guard),(133,bx 19 1)] [] [(30,[19]),(31,[19])] ?_
     refine De ?_
     exact wK [10,11,18,19,96,97,98,137] [(19,19,0)] ⟨!x25.Guard,h,rfl⟩
    replace h:=ctrue hb h
    refine Ds 2 [(113,po s_int x25.Names),(112,.box 19 1 0 1)] [] [(9,[19]),(10,[19])] ?_
    refine Dl rfl (v_len s_int .opt x25.Names) ?_
    refine Dt (vi (ln x25.Names)) ?_
    refine Ds 4 [(118,vb ((ln x25.Names) != 1)),(117,vb ((ln x25.Names) != 1)),(116,vb ((ln x25.Names) != 1)),(115,vb ((ln x25.Names) != 1))] [] [] ?_
    cases hb : (((ln x25.Names) != 1) : Bool)
    ·replace h:=cfalse hb h
     refine Ds 3 [(121,vb (decide (i24 > 0))),(120,vb (decide (i24 > 0))),(119,vi i24)] [] [] ?_
     cases hb : (decide (i24 > 0) : Bool)
     ·replace h:=cfalse hb h
      refine Ds 16 [(137,vb false),(136,vb false),(135,vU),(134,vU),(133,vU),(132,vb false),(131,vb false),(130,vU),(129,vU),(128,vU),(127,vU),(126,vU),(125,vU),(124,vU),(123,vU),(122,vU)] [] [] ?_
      refine De ?_
      exact wK [10,11,18,19,96,97,98,137] [(19,19,0)] ⟨false,h,rfl⟩
     replace h:=ctrue hb h
     refine Ds 5 [(126,vi (wr (i24 - 1))),(125,vi i24),(124,.ps .fopt (s_Cand.F r5)),(123,vb x25.Guard),(122,bx 19 1)] [] [(19,[19]),(20,[19])] ?_
     obtain ⟨x29,hx29,h⟩:=bsome h
     refine Dl rfl (v_index s_Cand .fopt r5 .i64 (wr (i24 - 1)) hx29) ?_
     refine Dt (.ref (eCand x29) 0) ?_
     refine Ds 5 [(132,vb (!(x25.Guard == x29.Guard))),(131,vb (!(x25.Guard == x29.Guard))),(130,vb (!(x25.Guard == x29.Guard))),(129,vb x29.Guard),(128,.ref (eCand x29) 0)] [] [] ?_
     cases hb : (!(x25.Guard == x29.Guard) : Bool)
     ·replace h:=cfalse hb h
      refine Ds 5 [(137,vb false),(136,vb false),(135,vU),(134,vU),(133,vU)] [] [] ?_
      refine De ?_
      exact wK [10,11,18,19,96,97,98,137] [(19,19,0)] ⟨false,h,rfl⟩
     replace h:=ctrue hb h
     refine Ds 5 [(137,vb (!x25.Guard)),(136,vb (!x25.Guard)),(135,vb (!x25.Guard)),(134,vb x25.Guard),(133,bx 19 1)] [] [(30,[19]),(31,[19])] ?_
     refine De ?_
     exact wK [10,11,18,19,96,97,98,137] [(19,19,0)] ⟨!x25.Guard,h,rfl⟩
    replace h:=ctrue hb h
    refine Ds 19 [(137,vb true),(136,vU),(135,vU),(134,vU),(133,vU),(132,vU),(131,vU),(130,vU),(129,vU),(128,vU),(127,vU),(126,vU),(125,vU),(124,vU),(123,vU),(122,vU),(121,vU),(120,vU),(119,vU)] [] [] ?_
    refine De ?_
    exact wK [10,11,18,19,96,97,98,137] [(19,19,0)] ⟨true,h,rfl⟩
   replace h:=ctrue hb h
   refine Ds 30 [(137,vb true),(136,vU),(135,vU),(134,vU),(133,vU),(132,vU),(131,vU),(130,vU),(129,vU),(128,vU),(127,vU),(126,vU),(125,vU),(124,vU),(123,vU),(122,vU),(121,vU),(120,vU),(119,vU),(118,vb true),(117,vb true),(116,vU),(115,vU),(114,vU),(113,vU),(112,vU),(111,vU),(110,vU),(109,vU),(108,vU)] [] [] ?_
   refine De ?_
   exact wK [10,11,18,19,96,97,98,137] [(19,19,0)] ⟨true,h,rfl⟩
  subst hJ27
  rintro s ⟨b26,h,rfl⟩
  skip
  refine Ci h (fun h=>?_) fun h=>?_
  ·refine Qzd hT 1 [8] [(8,vb false)] ?_
   obtain rfl:=Option.some.inj h
   exact rK [8] [] ⟨[(8,vb false)],[],1⟩ ⟨by kernel_rfl,rfl⟩
  refine WA_skip ?_
  refine WA_seq ?_
  refine Qgd hT 2 [10,11,18,19,96,97,98,139] [(139,po s_int x25.Names)] ?_
  refine One' hT rfl (v_len s_int .opt x25.Names) ?_
  refine Szd hT 1 [10,11,18,19,96,97,98,139,140,141] [(140,vi (ln x25.Names)),(141,vi 0)] ?_
  refine WA_block ?_
  refine lK [10,11,18,19,96,97,98,139,140,141] [(19,19,0)] (fun k s=>∃ q,q ≤ k ∧ q ≤ q2 ∧ ∃ (i30 : Int),law23_CandsEach_L3 q a0 a1 a2 a3 r1 r2 r3 r4 r5 b6 i9 i24 x25 b26 i30 = some r ∧ s = ⟨[(10,po s_int r4),(11,.ps .fopt (s_Cand.F r5)),(18,vi i24),(19,bx 19 0),(96,.ps .fopt (s_Cand.F r5)),(97,vi (ln r5)),(98,vi i24),(139,po s_int x25.Names),(140,vi (ln x25.Names)),(141,vi i30)],[(19,cb 0 37 3 (eCand x25))],1⟩) q2 ⟨q2,Nat.le_refl _,Nat.le_refl _,0,h,rfl⟩ (by rintro s ⟨q,hq,_,i30,h,_⟩; obtain rfl:=Nat.le_zero.1 hq; rw [law23_CandsEach_L3] at h; cases h) ?_
  clear h
  rintro k3 s ⟨q3,hk3,hn3,i30,h,rfl⟩
  rcases q3 with _ | q3
  ·rw [law23_CandsEach_L3] at h; cases h
  rw [law23_CandsEach_L3] at h
  refine Qzd hT 1 [10,11,18,19,96,97,98,139,140,141,142] [(142,vb (decide (i30 < (ln x25.Names))))] ?_
  refine WA_seq ?_
  refine Ci h (fun h=>?_) fun h=>?_
  ·refine WA_skip ?_
   refine WA_seq ?_
   refine WA_block ?_
   refine Qgd hT 1 [10,11,18,19,96,97,98,139,140,141,143] [(143,vi i30)] ?_
   obtain ⟨x31,hx31,h⟩:=bsome h
   refine One' hT rfl (v_index s_int .opt x25.Names .i64 i30 hx31) ?_
   refine Szd hT 3 [10,11,18,19,20,21,96,97,98,139,140,141] [(20,vi i30),(21,vi x31)] ?_
   refine Qzd hT 1 [10,11,18,19,20,21,22,96,97,98,139,140,141] [(22,vb false)] ?_
   refine WA_seq ?_
   refine Qg hT 1 [10,11,18,19,20,21,22,96,97,98,139,140,141,146] ⟨[(10,po s_int r4),(11,.ps .fopt (s_Cand.F r5)),(18,vi i24),(19,bx 19 0),(20,vi i30),(21,vi x31),(22,vb false),(96,.ps .fopt (s_Cand.F r5)),(97,vi (ln r5)),(98,vi i24),(139,po s_int x25.Names),(140,vi (ln x25.Names)),(141,vi i30),(146,po s_int r4)],[(19,cb 0 37 3 (eCand x25))],1⟩ ?_
   refine One' hT rfl (v_len s_int .opt r4) ?_
   refine Szd hT 1 [10,11,18,19,20,21,22,96,97,98,139,140,141,146,147,148] [(147,vi (ln r4)),(148,vi 0)] ?_
   refine WA_block ?_
   refine lK [10,11,18,19,20,21,22,96,97,98,139,140,141,146,147,148] [(19,19,0)] (fun k s=>∃ q,q ≤ k ∧ q ≤ q3 ∧ ∃ (b32 : Bool),∃ (i33 : Int),law23_CandsEach_L4 q a0 a1 a2 a3 r1 r2 r3 r4 r5 b6 i9 i24 x25 b26 i30 x31 b32 i33 = some r ∧ s = ⟨[(10,po s_int r4),(11,.ps .fopt (s_Cand.F r5)),(18,vi i24),(19,bx 19 0),(20,vi i30),(21,vi x31),(22,vb b32),(96,.ps .fopt (s_Cand.F r5)),(97,vi (ln r5)),(98,vi i24),(139,po s_int x25.Names),(140,vi (ln x25.Names)),(141,vi i30),(146,po s_int r4),(147,vi (ln r4)),(148,vi i33)],[(19,cb 0 37 3 (eCand x25))],1⟩) q3 ⟨q3,Nat.le_refl _,Nat.le_refl _,false,0,h,rfl⟩ (by rintro s ⟨q,hq,_,b32,i33,h,_⟩; obtain rfl:=Nat.le_zero.1 hq; rw [law23_CandsEach_L4] at h; cases h) ?_
   clear h
   rintro k4 s ⟨q4,hk4,hn4,b32,i33,h,rfl⟩
   rcases q4 with _ | q4
   ·rw [law23_CandsEach_L4] at h; cases h
   rw [law23_CandsEach_L4] at h
   refine Qzd hT 1 [10,11,18,19,20,21,22,96,97,98,139,140,141,146,147,148,149] [(149,vb (decide (i33 < (ln r4))))] ?_
   refine WA_seq ?_
   refine Ci h (fun h=>?_) fun h=>?_
   ·refine WA_skip ?_
    refine WA_seq ?_
    obtain ⟨J35,hJ35,h⟩:=jsome h
    refine WA_join (fun s=>∃ (b34 : Bool),J35 b34 = some r ∧ s = ⟨[(10,po s_int r4),(11,.ps .fopt (s_Cand.F r5)),(18,vi i24),(19,bx 19 0),(20,vi i30),(21,vi x31),(22,vb b34),(96,.ps .fopt (s_Cand.F r5)),(97,vi (ln r5)),(98,vi i24),(139,po s_int x25.Names),(140,vi (ln x25.Names)),(141,vi i30),(146,po s_int r4),(147,vi (ln r4)),(148,vi i33)],[(19,cb 0 37 3 (eCand x25))],1⟩) ?_ ?_
    ·refine WA_block ?_
     refine Qgd hT 0 [10,11,18,19,20,21,22,96,97,98,139,140,141,146,147,148] [] ?_
     obtain ⟨x36,hx36,h⟩:=bsome h
     refine One' hT rfl (v_index s_int .opt r4 .i64 i33 hx36) ?_
     refine Szd hT 2 [10,11,18,19,20,21,22,24,96,97,98,139,140,141,146,147,148] [(24,vi x36)] ?_
     refine Rgd hT 2 [10,11,18,19,20,21,24,96,97,98,139,140,141,146,147,148,153] [(153,vb b32)] ?_
     cases hb : (b32 : Bool)
     ·replace h:=cfalse hb h
      refine Sgd hT 5 [10,11,18,19,20,21,22,96,97,98,139,140,141,146,147,148] [(22,vb (x36 == x31))] ?_
      exact oK [10,11,18,19,20,21,22,96,97,98,139,140,141,146,147,148] [(19,19,0)] ⟨(x36 == x31),h,rfl⟩
     replace h:=ctrue hb h
     refine Sgd hT 5 [10,11,18,19,20,21,22,96,97,98,139,140,141,146,147,148] [(22,vb true)] ?_
     exact oK [10,11,18,19,20,21,22,96,97,98,139,140,141,146,147,148] [(19,19,0)] ⟨true,h,rfl⟩
    subst hJ35
    rintro s ⟨b34,h,rfl⟩
    skip
    refine Rgd hT 2 [10,11,18,19,20,21,22,96,97,98,139,140,141,146,147,148] [(148,vi (wr (i33 + 1)))] ?_
    exact oK [10,11,18,19,20,21,22,96,97,98,139,140,141,146,147,148] [(19,19,0)] ⟨_,by omega,by omega,b34,wr (i33 + 1),h,rfl⟩
   refine WA_exit ?_
   refine WA_seq ?_
   obtain ⟨J38,hJ38,h⟩:=jsome h
   refine WA_join (fun s=>∃ (b37 : Bool),J38 b37 = some r ∧ s = ⟨[(10,po s_int r4),(11,.ps .fopt (s_Cand.F r5)),(18,vi i24),(19,bx 19 0),(96,.ps .fopt (s_Cand.F r5)),(97,vi (ln r5)),(98,vi i24),(139,po s_int x25.Names),(140,vi (ln x25.Names)),(141,vi i30),(174,vb b37)],[(19,cb 0 37 3 (eCand x25))],1⟩) ?_ ?_
   ·refine Rgd hT 3 [10,11,18,19,20,21,96,97,98,139,140,141,161] [(161,vb (!b32))] ?_
    cases hb : (!b32 : Bool)
    ·replace h:=cfalse hb h
     refine Sgd hT 3 [10,11,18,19,20,21,96,97,98,139,140,141,161,164] [(164,vb (decide (i30 > 0)))] ?_
     cases hb : (decide (i30 > 0) : Bool)
     ·replace h:=cfalse hb h
      refine Sgd hT 10 [10,11,18,19,96,97,98,139,140,141,174] [(174,vb false)] ?_
      exact oK [10,11,18,19,96,97,98,139,140,141,174] [(19,19,0)] ⟨false,h,rfl⟩
     replace h:=ctrue hb h
     refine Sgd hT 4 [10,11,18,19,21,96,97,98,139,140,141,161,164,166,168] [(166,po s_int x25.Names),(168,vi (wr (i30 - 1)))] ?_
     obtain ⟨x39,hx39,h⟩:=bsome h
     refine One' hT rfl (v_index s_int .opt x25.Names .i64 (wr (i30 - 1)) hx39) ?_
     refine Sgd hT 5 [10,11,18,19,96,97,98,139,140,141,174] [(174,vb (decide (x39 ≥ x31)))] ?_
     exact oK [10,11,18,19,96,97,98,139,140,141,174] [(19,19,0)] ⟨decide (x39 ≥ x31),h,rfl⟩
    replace h:=ctrue hb h
    refine Sg hT 13 [10,11,18,19,96,97,98,139,140,141,174] ⟨[(10,po s_int r4),(11,.ps .fopt (s_Cand.F r5)),(18,vi i24),(19,bx 19 0),(96,.ps .fopt (s_Cand.F r5)),(97,vi (ln r5)),(98,vi i24),(139,po s_int x25.Names),(140,vi (ln x25.Names)),(141,vi i30),(174,vb true)],[(19,cb 0 37 3 (eCand x25))],1⟩ ?_
    exact oK [10,11,18,19,96,97,98,139,140,141,174] [(19,19,0)] ⟨true,h,rfl⟩
   subst hJ38
   rintro s ⟨b37,h,rfl⟩
   skip
   refine Ci h (fun h=>?_) fun h=>?_
   ·refine Qzd hT 1 [8] [(8,vb false)] ?_
    obtain rfl:=Option.some.inj h
    exact rK [8] [] ⟨[(8,vb false)],[],1⟩ ⟨by kernel_rfl,rfl⟩
   refine WA_skip ?_
   refine Rgd hT 2 [10,11,18,19,96,97,98,139,140,141] [(141,vi (wr (i30 + 1)))] ?_
   exact oK [10,11,18,19,96,97,98,139,140,141] [(19,19,0)] ⟨_,by omega,by omega,wr (i30 + 1),h,rfl⟩
  refine WA_exit ?_
  refine Qgd hT 2 [10,11,19,96,97,98,176,177] [(176,.ps .fopt (s_Cand.F r5)),(177,vi i24)] ?_
  obtain ⟨l40,hl40,h⟩:=bsome h
  refine One' hT rfl (v_slice s_Cand .fopt r5 0 i24 none l40 .opt hl40 (by intro y hy; cases hy)) ?_
  refine Sgd hT 0 [10,11,19,96,97,98,178] [(178,po s_Cand l40)] ?_
  refine One' hT rfl (v_len s_Cand .opt l40) ?_
  refine Szd hT 1 [10,11,19,96,97,98,178,179,180] [(179,vi (ln l40)),(180,vi 0)] ?_
  refine WA_block ?_
  refine lK [10,11,19,96,97,98,178,179,180] [(19,19,0)] (fun k s=>∃ q,q ≤ k ∧ q ≤ q3 ∧ ∃ (i41 : Int),law23_CandsEach_L5 q a0 a1 a2 a3 r1 r2 r3 r4 r5 b6 i9 i24 x25 b26 i30 l40 i41 = some r ∧ s = ⟨[(10,po s_int r4),(11,.ps .fopt (s_Cand.F r5)),(19,bx 19 0),(96,.ps .fopt (s_Cand.F r5)),(97,vi (ln r5)),(98,vi i24),(178,po s_Cand l40),(179,vi (ln l40)),(180,vi i41)],[(19,cb 0 37 3 (eCand x25))],1⟩) q3 ⟨q3,Nat.le_refl _,Nat.le_refl _,0,h,rfl⟩ (by rintro s ⟨q,hq,_,i41,h,_⟩; obtain rfl:=Nat.le_zero.1 hq; rw [law23_CandsEach_L5] at h; cases h) ?_
  clear h
  rintro k4 s ⟨q4,hk4,hn4,i41,h,rfl⟩
  rcases q4 with _ | q4
  ·rw [law23_CandsEach_L5] at h; cases h
  rw [law23_CandsEach_L5] at h
  refine Qzd hT 1 [10,11,19,96,97,98,178,179,180,181] [(181,vb (decide (i41 < (ln l40))))] ?_
  refine WA_seq ?_
  refine Ci h (fun h=>?_) fun h=>?_
  ·refine WA_skip ?_
   refine WA_seq ?_
   refine WA_block ?_
   refine Qgd hT 0 [10,11,19,96,97,98,178,179,180] [] ?_
   obtain ⟨x42,hx42,h⟩:=bsome h
   refine One' hT rfl (v_index s_Cand .opt l40 .i64 i41 hx42) ?_
   refine Szh hT 3 [10,11,19,26,96,97,98,178,179,180] [(26,bx 26 1)] [(26,cb 1 37 3 (eCand x42)),(19,cb 0 37 3 (eCand x25))] 2 ?_
   refine WA_seq ?_
   obtain ⟨J44,hJ44,h⟩:=jsome h
   refine WA_join (fun s=>∃ (b43 : Bool),J44 b43 = some r ∧ s = ⟨[(10,po s_int r4),(11,.ps .fopt (s_Cand.F r5)),(19,bx 19 0),(96,.ps .fopt (s_Cand.F r5)),(97,vi (ln r5)),(98,vi i24),(178,po s_Cand l40),(179,vi (ln l40)),(180,vi i41),(195,vb b43)],[(19,cb 0 37 3 (eCand x25))],1⟩) ?_ ?_
   ·refine Rgd hT 6 [10,11,19,26,96,97,98,178,179,180,189] [(189,vb (x42.Guard == x25.Guard))] ?_
    cases hb : ((x42.Guard == x25.Guard) : Bool)
    ·replace h:=cfalse hb h
     refine Sgd hT 6 [10,11,19,96,97,98,178,179,180,195] [(195,vb false)] ?_
     exact oK [10,11,19,96,97,98,178,179,180,195] [(19,19,0)] ⟨false,h,rfl⟩
    replace h:=ctrue hb h
    refine Sgd hT 4 [10,11,19,96,97,98,178,179,180,189,191,193] [(191,po s_int x42.Names),(193,po s_int x25.Names)] ?_
    obtain ⟨r45,hr45,h⟩:=bsome h
    refine Pt' en10 (law23_same_ok hr45) ?_
    refine Sgd hT 1 [10,11,19,96,97,98,178,179,180,195] [(195,vb r45)] ?_
    exact oK [10,11,19,96,97,98,178,179,180,195] [(19,19,0)] ⟨r45,h,rfl⟩
   subst hJ44
   rintro s ⟨b43,h,rfl⟩
   skip
   refine Ci h (fun h=>?_) fun h=>?_
   ·refine Qzd hT 1 [8] [(8,vb false)] ?_
    obtain rfl:=Option.some.inj h
    exact rK [8] [] ⟨[(8,vb false)],[],1⟩ ⟨by kernel_rfl,rfl⟩
   refine WA_skip ?_
   refine Rgd hT 2 [10,11,19,96,97,98,178,179,180] [(180,vi (wr (i41 + 1)))] ?_
   exact oK [10,11,19,96,97,98,178,179,180] [(19,19,0)] ⟨_,by omega,by omega,wr (i41 + 1),h,rfl⟩
  refine WA_exit ?_
  refine Rg hT 2 [10,11,96,97,98] ⟨[(10,po s_int r4),(11,.ps .fopt (s_Cand.F r5)),(96,.ps .fopt (s_Cand.F r5)),(97,vi (ln r5)),(98,vi (wr (i24 + 1)))],[(19,cb 0 37 3 (eCand x25))],1⟩ ?_
  exact oK [10,11,96,97,98] [] ⟨_,by omega,by omega,wr (i24 + 1),h,rfl⟩
 refine WA_exit ?_
 refine Qz hT 1 [8] ⟨[(8,vb true)],[],1⟩ ?_
 obtain rfl:=Option.some.inj h
 exact rK [8] [] ⟨[(8,vb true)],[],1⟩ ⟨by kernel_rfl,rfl⟩
end Go.Su.Ytepcmciljmennaa
