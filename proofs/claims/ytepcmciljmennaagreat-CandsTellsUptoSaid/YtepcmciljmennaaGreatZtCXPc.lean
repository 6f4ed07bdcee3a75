/-
  The functions of the program compute that.
-/
import Derived.Test.YtepcmciljmennaaGreatZtCXPb
namespace Go.Su.YtepcmciljmennaaGreat
open Go.Mx Go.Proofs
set_option maxRecDepth 100000
set_option maxHeartbeats 20000000
set_option linter.unusedVariables false
set_option linter.unusedSimpArgs false
theorem Clone_Expr_ok {n : Nat} {a0 : List Expr} {r : List Expr} (h : Clone_Expr n a0 = some r) : GO Tryz.prog 129 [] [po s_Expr a0] (vs 100 1 s_Expr r) [(100,rb 1 s_Expr r)]:=by
 unfold Clone_Expr at h
 refine GO_bodyA hT Tryz.func129 rfl [] (by kernel_rfl) fun bad w m=>?_
 refine Qzd hT 1 [0] [] ?_
 refine WA_seq ?_
 refine Qgd hT 1 [0,3] [(3,po s_Expr a0)] ?_
 refine WO_isnil' hT s_Expr rfl (by kernel_rfl) .opt a0 rfl (by kernel_rfl) (by kernel_rfl) ?_
 intro b1 hnil
 cases b1
 ·clear hnil
  refine Szh hT 0 [0,4] [(4,vb false)] [] 1 ?_
  refine WA_cond false (by kernel_rfl) (fun hb=>by cases hb) (fun _=>?_)
  refine WA_skip ?_
  refine Qg hT 2 [5,6] ⟨[(5,vs 5 1 s_Expr ([] : List Expr)),(6,po s_Expr a0)],[(5,⟨1,99,4,false,false,s_Expr.F ([] : List Expr)⟩)],2⟩ ?_
  obtain ⟨g2,h⟩:=gsome h
  refine Oa hT s_Expr 5 1 false ([] : List Expr) a0 (by kernel_rfl) g2 ?_
  refine Sz hT 1 [2] ⟨[(2,vs 7 2 s_Expr (([] : List Expr) ++ a0))],[(7,rb 2 s_Expr (([] : List Expr) ++ a0))],3⟩ ?_
  obtain rfl:=Option.some.inj h
  exact rK [2] [(7,100,1)] ⟨[(2,vs 100 1 s_Expr (([] : List Expr) ++ a0))],[(100,rb 1 s_Expr (([] : List Expr) ++ a0))],2⟩ ⟨by kernel_rfl,by kernel_rfl,rfl⟩
 ·replace h : some ([] : List Expr) = some r:=by (have e:=hnil rfl; subst e; first | exact h | (obtain ⟨_,h⟩:=gsome h; simpa using h))
  clear hnil
  refine Szh hT 0 [0,4] [(4,vb true)] [] 1 ?_
  refine WA_cond true (by kernel_rfl) (fun _=>?_) (fun hb=>by cases hb)
  refine Qz hT 1 [2] ⟨[(2,vn)],[],1⟩ ?_
  refine aW [2] ⟨[(2,vn)],[],1⟩ ?_
  refine WA_weak (wO 2 5000 99 4) ?_
  obtain rfl:=Option.some.inj h
  exact rK [2] [(5000,100,1)] ⟨[(2,vs 100 1 s_Expr ([] : List Expr))],[(100,rb 1 s_Expr ([] : List Expr))],2⟩ ⟨by kernel_rfl,by kernel_rfl,rfl⟩
theorem Clip_Expr_o_ok {n : Nat} {a0 : List Expr} {r : List Expr} (h : Clip_Expr_o n a0 = some r) : GO Tryz.prog 128 [(0,rb 0 s_Expr a0)] [vs 0 0 s_Expr a0] (.sl 100 1 0 (s_Expr.F r).length false) [(100,rb 1 s_Expr r)]:=by
 unfold Clip_Expr_o at h
 refine GO_bodyA hT Tryz.func128 rfl [] (by kernel_rfl) fun bad w m=>?_
 refine Qzd hT 1 [0] [] ?_
 refine Qgd hT 2 [0,3,4] [(3,vs 0 0 s_Expr a0),(4,vs 0 0 s_Expr a0)] ?_
 refine One' hT rfl (v_len_own s_Expr 0 0 true (rb 0 s_Expr a0) a0) ?_
 refine Sgd hT 1 [3,5,6] [(5,vi (ln a0)),(6,vs 0 0 s_Expr a0)] ?_
 refine One' hT rfl (v_len_own s_Expr 0 0 true (rb 0 s_Expr a0) a0) ?_
 refine Sgd hT 0 [3,5,7] [(7,vi (ln a0))] ?_
 refine WO_clip' hT s_Expr rfl (by kernel_rfl) 0 0 (s_Expr.F a0).length true (rb 0 s_Expr a0) rfl (by kernel_rfl) (by kernel_rfl) rfl (by rw [TE.len]; kernel_rfl) (by rw [TE.len]; kernel_rfl) (by kernel_rfl) ?_
 refine Sz hT 1 [2] ⟨[(2,.sl 0 0 0 (s_Expr.F a0).length false)],[(0,rb 0 s_Expr a0)],1⟩ ?_
 obtain rfl:=Option.some.inj h
 exact rK [2] [(0,100,1)] ⟨[(2,.sl 100 1 0 (s_Expr.F a0).length false)],[(100,rb 1 s_Expr a0)],2⟩ ⟨by kernel_rfl,by kernel_rfl,rfl⟩
def tree_copyExpr_spec (n : Nat) : Prop:=(∀ {a0 : Expr} {r : Expr},tree_copyExpr n a0 = some r → PT Tryz.prog 113 [eExpr a0] (eExpr r))
theorem tree_copyExpr_step (n : Nat) (ih : ∀ m,m < n → tree_copyExpr_spec m) : ∀ {a0 : Expr} {r : Expr},tree_copyExpr n a0 = some r → PT Tryz.prog 113 [eExpr a0] (eExpr r):=by
 intro a0 r h
 rcases n with _ | n
 ·rw [tree_copyExpr] at h; cases h
 rw [tree_copyExpr] at h
 refine PT_bodyA hT Tryz.func113 rfl (by kernel_rfl) fun bad w=>?_
 refine Qz hT 2 [1,2] ⟨[(1,bx 1 0),(2,bx 2 1)],[(2,cb 1 99 4 (.agg [vi 0,vi 0,vw b0,vn])),(1,cb 0 99 4 (eExpr a0))],2⟩ ?_
 refine Qgd hT 2 [1,2,6] [(6,po s_Expr a0.Of)] ?_
 obtain ⟨r1,hr1,h⟩:=bsome h
 refine Og [] [(100,rb 1 s_Expr r1)] [po s_Expr a0.Of] [po s_Expr a0.Of] [] [(100,7,2)] [(7,rb 2 s_Expr r1)] (vs 100 1 s_Expr r1) (vs 7 2 s_Expr r1) 3 en129 (Clone_Expr_ok hr1) ?_
 refine Sgh hT 0 [1,2,7] [(7,vs 7 2 s_Expr r1)] [(7,rb 2 s_Expr r1),(2,cb 1 99 4 (.agg [vi 0,vi 0,vw b0,vn])),(1,cb 0 99 4 (eExpr a0))] 3 ?_
 obtain ⟨r2,hr2,h⟩:=bsome h
 refine Og [(0,rb 0 s_Expr r1)] [(100,rb 1 s_Expr r2)] [vs 7 2 s_Expr r1] [vs 0 0 s_Expr r1] [(7,0,0)] [(100,8,3)] [(8,rb 3 s_Expr r2)] (.sl 100 1 0 (s_Expr.F r2).length false) (.sl 8 3 0 (s_Expr.F r2).length false) 4 en128 (Clip_Expr_o_ok hr2) ?_
 refine Szh hT 2 [1,2] [] [(1,cb 0 99 4 (.agg [vi a0.Kind,vi a0.N,vw a0.Name,.sl 8 3 0 (s_Expr.F r2).length false])),(8,rb 3 s_Expr r2),(2,cb 1 99 4 (.agg [vi 0,vi 0,vw b0,vn]))] 4 ?_
 refine WA_seq ?_
 refine Qgd hT 2 [1,2,11] [(11,.sl 8 3 0 (s_Expr.F r2).length false)] ?_
 refine One' hT rfl (v_len_own s_Expr 8 3 false (rb 3 s_Expr r2) r2) ?_
 refine Szd hT 1 [1,2,11,12,13] [(12,vi (ln r2)),(13,vi 0)] ?_
 refine WA_block ?_
 refine lK [1,2,11,12,13] [(1,1,0),(2,2,0),(8,8,0)] (fun k s=>∃ q,q ≤ k ∧ q ≤ n ∧ ∃ (l4 : List Expr),∃ (w5 : ByteArray),∃ (i6 : Int),tree_copyExpr_L0 q a0 r1 r2 l4 w5 i6 = some r ∧ s = ⟨[(1,bx 1 0),(2,bx 2 0),(11,.sl 8 0 0 (s_Expr.F l4).length false),(12,vi (ln r2)),(13,vi i6)],[(1,cb 0 99 4 (.agg [vi a0.Kind,vi a0.N,vw a0.Name,.sl 8 0 0 (s_Expr.F l4).length false])),(2,cb 0 99 4 (.agg [vi 0,vi 0,vw w5,vn])),(8,rb 0 s_Expr l4)],1⟩) n ⟨n,Nat.le_refl _,Nat.le_refl _,r2,b0,0,h,rfl⟩ (by rintro s ⟨q,hq,_,l4,w5,i6,h,_⟩; obtain rfl:=Nat.le_zero.1 hq; rw [tree_copyExpr_L0] at h; cases h) ?_
 clear h
 rintro k1 s ⟨q1,hk1,hn1,l4,w5,i6,h,rfl⟩
 rcases q1 with _ | q1
 ·rw [tree_copyExpr_L0] at h; cases h
 rw [tree_copyExpr_L0] at h
 refine Qzd hT 1 [1,2,11,12,13,14] [(14,vb (decide (i6 < (ln r2))))] ?_
 refine WA_seq ?_
 refine Ci h (fun h=>?_) fun h=>?_
 ·refine WA_skip ?_
  refine WA_seq ?_
  refine WA_block ?_
  refine Qgd hT 1 [1,2,11,12,13,15] [(15,vi i6)] ?_
  obtain ⟨x7,hx7,h⟩:=bsome h
  refine One' hT rfl (v_index_own s_Expr 8 0 false (rb 0 s_Expr l4) l4 .i64 i6 hx7) ?_
  refine Sg hT 0 [1,2,11,12,13,15,16] ⟨[(1,bx 1 0),(2,bx 2 0),(11,.sl 8 0 0 (s_Expr.F l4).length false),(12,vi (ln r2)),(13,vi i6),(15,vi i6),(16,.box 8 0 i6.toNat 0)],[(1,cb 0 99 4 (.agg [vi a0.Kind,vi a0.N,vw a0.Name,.sl 8 0 0 (s_Expr.F l4).length false])),(2,cb 0 99 4 (.agg [vi 0,vi 0,vw w5,vn])),(8,rb 0 s_Expr l4)],1⟩ ?_
  refine One' hT rfl (v_load_row s_Expr 8 0 (rb 0 s_Expr l4) l4 i6.toNat 0 x7 (eExpr x7) (idx_some hx7).2) ?_
  refine Szh hT 3 [1,2,3,4,11,12,13] [(3,vi i6),(4,bx 4 1)] [(4,cb 1 99 4 (eExpr x7)),(1,cb 0 99 4 (.agg [vi a0.Kind,vi a0.N,vw a0.Name,.sl 8 0 0 (s_Expr.F l4).length false])),(2,cb 0 99 4 (.agg [vi 0,vi 0,vw w5,vn])),(8,rb 0 s_Expr l4)] 2 ?_
  refine WA_drawW hT hM (by kernel_rfl) ?_
  refine Ds 4 [(21,eExpr x7),(20,vi i6),(19,.sl 8 0 0 (s_Expr.F l4).length false),(18,.box 1 0 0 3)] [] [(0,[1]),(1,[1]),(3,[4])] ?_
  obtain ⟨r8,hr8,h⟩:=bsome h
  refine Dp [eExpr x7] (eExpr r8) en113 ((ih _ (by omega)) hr8) ?_
  obtain ⟨x9,hx9,h⟩:=bsome h
  refine Dl rfl (v_index_own s_Expr 8 0 false (rb 0 s_Expr l4) l4 .i64 i6 hx9) ?_
  refine Dt (.box 8 0 i6.toNat 0) ?_
  refine Dw rfl (v_storeRow s_Expr 8 0 (rb 0 s_Expr l4) l4 i6.toNat 0 x9 r8 (idx_some hx9).2) ?_
  refine De ?_
  refine kW [1,2,11,12,13] ⟨[(1,bx 1 0),(2,bx 2 0),(11,.sl 8 0 0 (s_Expr.F l4).length false),(12,vi (ln r2)),(13,vi i6)],[(8,rb 0 s_Expr (l4.set i6.toNat r8)),(4,cb 1 99 4 (eExpr x7)),(1,cb 0 99 4 (.agg [vi a0.Kind,vi a0.N,vw a0.Name,.sl 8 0 0 (s_Expr.F l4).length false])),(2,cb 0 99 4 (.agg [vi 0,vi 0,vw w5,vn]))],2⟩ ?_
  refine Wk_step (wL [(1,bx 1 0),(2,bx 2 0),(11,.sl 8 0 0 (s_Expr.F (l4.set i6.toNat r8)).length false),(12,vi (ln r2)),(13,vi i6)] [(8,rb 0 s_Expr (l4.set i6.toNat r8)),(4,cb 1 99 4 (eExpr x7)),(1,cb 0 99 4 (.agg [vi a0.Kind,vi a0.N,vw a0.Name,.sl 8 0 0 (s_Expr.F (l4.set i6.toNat r8)).length false])),(2,cb 0 99 4 (.agg [vi 0,vi 0,vw w5,vn]))] ⟨VLf.refl _,VLf.refl _,(VLf.slen (by simp [TE.len,lcopy_length,rcopy_length,clr_length])),VLf.refl _,VLf.refl _,trivial⟩ ⟨rfl,.inl rfl,rfl,.inl rfl,rfl,.inr (.inl ⟨rfl,rfl,CLe.agg ⟨VLf.refl _,VLf.refl _,VLf.refl _,(VLf.slen (by simp [TE.len,lcopy_length,rcopy_length,clr_length])),trivial⟩,trivial⟩),rfl,.inl rfl,trivial⟩) ?_
  refine Wk_done ?_
  refine Rgd hT 2 [1,2,11,12,13] [(13,vi (wr (i6 + 1)))] ?_
  exact oK [1,2,11,12,13] [(1,1,0),(2,2,0),(8,8,0)] ⟨_,by omega,by omega,l4.set i6.toNat r8,w5,wr (i6 + 1),h,rfl⟩
 refine WA_exit ?_
 refine Qz hT 2 [2] ⟨[(2,bx 2 0)],[(2,cb 0 99 4 (.agg [vi a0.Kind,vi a0.N,vw a0.Name,.sl 8 0 0 (s_Expr.F l4).length false])),(1,cb 0 99 4 (.agg [vi a0.Kind,vi a0.N,vw a0.Name,.sl 8 0 0 (s_Expr.F l4).length false])),(8,rb 0 s_Expr l4)],1⟩ ?_
 refine aW [2] ⟨[(2,bx 2 0)],[(2,cb 0 99 4 (.agg [vi a0.Kind,vi a0.N,vw a0.Name,.sl 8 0 0 (s_Expr.F l4).length false])),(1,cb 0 99 4 (.agg [vi a0.Kind,vi a0.N,vw a0.Name,.sl 8 0 0 (s_Expr.F l4).length false])),(8,rb 0 s_Expr l4)],1⟩ ?_
 refine WA_weak (wF 8 0 (rb 0 s_Expr l4) [(2,bx 2 0)] [(2,cb 0 99 4 (.agg [vi a0.Kind,vi a0.N,vw a0.Name,po s_Expr l4])),(1,cb 0 99 4 (.agg [vi a0.Kind,vi a0.N,vw a0.Name,po s_Expr l4]))] ⟨rfl,.keep _,trivial⟩ ⟨rfl,.inr ⟨rfl,rfl,.aggs ⟨.keep _,.keep _,.keep _,.hit false,trivial⟩,trivial⟩,rfl,.inr ⟨rfl,rfl,.aggs ⟨.keep _,.keep _,.keep _,.hit false,trivial⟩,trivial⟩,trivial⟩) ?_
 refine WA_weak (wL [(2,bx 2 0)] [(2,cb 0 99 4 (eExpr (Expr.mk a0.Kind a0.N a0.Name l4))),(1,cb 0 99 4 (.agg [vi a0.Kind,vi a0.N,vw a0.Name,po s_Expr l4]))] ⟨VLf.refl _,trivial⟩ ⟨rfl,.inr (.inl ⟨rfl,rfl,CLe.agg ⟨VLf.refl _,VLf.refl _,VLf.refl _,VLf.refl _,trivial⟩,trivial⟩),rfl,.inl rfl,trivial⟩) ?_
 obtain rfl:=Option.some.inj h
 exact rR [(2,1000,0)] ⟨[(2,bx 1000 0)],[(1000,cb 0 99 4 (eExpr (Expr.mk a0.Kind a0.N a0.Name l4)))],1⟩ ⟨by kernel_rfl,rfl⟩
theorem tree_copyExpr_all (n : Nat) : tree_copyExpr_spec n:=by
 induction n using Nat.strongRecOn with
 | _ n ih=>exact tree_copyExpr_step n ih
theorem tree_copyExpr_ok {n : Nat} {a0 : Expr} {r : Expr} (h : tree_copyExpr n a0 = some r) : PT Tryz.prog 113 [eExpr a0] (eExpr r):=(tree_copyExpr_all n) h
theorem Clone_Stmt_ok {n : Nat} {a0 : List Stmt} {r : List Stmt} (h : Clone_Stmt n a0 = some r) : GO Tryz.prog 130 [] [po s_Stmt a0] (vs 100 1 s_Stmt r) [(100,rb 1 s_Stmt r)]:=by
 unfold Clone_Stmt at h
 refine GO_bodyA hT Tryz.func130 rfl [] (by kernel_rfl) fun bad w m=>?_
 refine Qzd hT 1 [0] [] ?_
 refine WA_seq ?_
 refine Qgd hT 1 [0,3] [(3,po s_Stmt a0)] ?_
 refine WO_isnil' hT s_Stmt rfl (by kernel_rfl) .opt a0 rfl (by kernel_rfl) (by kernel_rfl) ?_
 intro b1 hnil
 cases b1
 ·clear hnil
  refine Szh hT 0 [0,4] [(4,vb false)] [] 1 ?_
  refine WA_cond false (by kernel_rfl) (fun hb=>by cases hb) (fun _=>?_)
  refine WA_skip ?_
  refine Qg hT 2 [5,6] ⟨[(5,vs 5 1 s_Stmt ([] : List Stmt)),(6,po s_Stmt a0)],[(5,⟨1,101,11,false,false,s_Stmt.F ([] : List Stmt)⟩)],2⟩ ?_
  obtain ⟨g2,h⟩:=gsome h
  refine Oa hT s_Stmt 5 1 false ([] : List Stmt) a0 (by kernel_rfl) g2 ?_
  refine Sz hT 1 [2] ⟨[(2,vs 7 2 s_Stmt (([] : List Stmt) ++ a0))],[(7,rb 2 s_Stmt (([] : List Stmt) ++ a0))],3⟩ ?_
  obtain rfl:=Option.some.inj h
  exact rK [2] [(7,100,1)] ⟨[(2,vs 100 1 s_Stmt (([] : List Stmt) ++ a0))],[(100,rb 1 s_Stmt (([] : List Stmt) ++ a0))],2⟩ ⟨by kernel_rfl,by kernel_rfl,rfl⟩
 ·replace h : some ([] : List Stmt) = some r:=by (have e:=hnil rfl; subst e; first | exact h | (obtain ⟨_,h⟩:=gsome h; simpa using h))
  clear hnil
  refine Szh hT 0 [0,4] [(4,vb true)] [] 1 ?_
  refine WA_cond true (by kernel_rfl) (fun _=>?_) (fun hb=>by cases hb)
  refine Qz hT 1 [2] ⟨[(2,vn)],[],1⟩ ?_
  refine aW [2] ⟨[(2,vn)],[],1⟩ ?_
  refine WA_weak (wO 2 5000 101 11) ?_
  obtain rfl:=Option.some.inj h
  exact rK [2] [(5000,100,1)] ⟨[(2,vs 100 1 s_Stmt ([] : List Stmt))],[(100,rb 1 s_Stmt ([] : List Stmt))],2⟩ ⟨by kernel_rfl,by kernel_rfl,rfl⟩
theorem Clip_Stmt_o_ok {n : Nat} {a0 : List Stmt} {r : List Stmt} (h : Clip_Stmt_o n a0 = some r) : GO Tryz.prog 80 [(0,rb 0 s_Stmt a0)] [vs 0 0 s_Stmt a0] (.sl 100 1 0 (s_Stmt.F r).length false) [(100,rb 1 s_Stmt r)]:=by
 unfold Clip_Stmt_o at h
 refine GO_bodyA hT Tryz.func80 rfl [] (by kernel_rfl) fun bad w m=>?_
 refine Qzd hT 1 [0] [] ?_
 refine Qgd hT 2 [0,3,4] [(3,vs 0 0 s_Stmt a0),(4,vs 0 0 s_Stmt a0)] ?_
 refine One' hT rfl (v_len_own s_Stmt 0 0 true (rb 0 s_Stmt a0) a0) ?_
 refine Sgd hT 1 [3,5,6] [(5,vi (ln a0)),(6,vs 0 0 s_Stmt a0)] ?_
 refine One' hT rfl (v_len_own s_Stmt 0 0 true (rb 0 s_Stmt a0) a0) ?_
 refine Sgd hT 0 [3,5,7] [(7,vi (ln a0))] ?_
 refine WO_clip' hT s_Stmt rfl (by kernel_rfl) 0 0 (s_Stmt.F a0).length true (rb 0 s_Stmt a0) rfl (by kernel_rfl) (by kernel_rfl) rfl (by rw [TE.len]; kernel_rfl) (by rw [TE.len]; kernel_rfl) (by kernel_rfl) ?_
 refine Sz hT 1 [2] ⟨[(2,.sl 0 0 0 (s_Stmt.F a0).length false)],[(0,rb 0 s_Stmt a0)],1⟩ ?_
 obtain rfl:=Option.some.inj h
 exact rK [2] [(0,100,1)] ⟨[(2,.sl 100 1 0 (s_Stmt.F a0).length false)],[(100,rb 1 s_Stmt a0)],2⟩ ⟨by kernel_rfl,by kernel_rfl,rfl⟩
def tree_copyBlock_spec (n : Nat) : Prop:=(∀ {a0 : List Stmt} {r : List Stmt},tree_copyBlock n a0 = some r → GO Tryz.prog 114 [] [po s_Stmt a0] (.sl 100 1 0 (s_Stmt.F r).length false) [(100,rb 1 s_Stmt r)]) ∧ (∀ {a0 : Stmt} {r : Stmt},tree_copyStmt n a0 = some r → PT Tryz.prog 79 [eStmt a0] (eStmt r))
theorem tree_copyBlock_step (n : Nat) (ih : ∀ m,m < n → tree_copyBlock_spec m) : ∀ {a0 : List Stmt} {r : List Stmt},tree_copyBlock n a0 = some r → GO Tryz.prog 114 [] [po s_Stmt a0] (.sl 100 1 0 (s_Stmt.F r).length false) [(100,rb 1 s_Stmt r)]:=by
 intro a0 r h
 rcases n with _ | n
 ·rw [tree_copyBlock] at h; cases h
 rw [tree_copyBlock] at h
 refine GO_bodyA hT Tryz.func114 rfl [] (by kernel_rfl) fun bad w m=>?_
 refine Qzd hT 1 [0] [] ?_
 refine Qg hT 1 [6] ⟨[(6,po s_Stmt a0)],[],1⟩ ?_
 obtain ⟨r1,hr1,h⟩:=bsome h
 refine Og [] [(100,rb 1 s_Stmt r1)] [po s_Stmt a0] [po s_Stmt a0] [] [(100,7,1)] [(7,rb 1 s_Stmt r1)] (vs 100 1 s_Stmt r1) (vs 7 1 s_Stmt r1) 2 en130 (Clone_Stmt_ok hr1) ?_
 refine Sg hT 0 [7] ⟨[(7,vs 7 1 s_Stmt r1)],[(7,rb 1 s_Stmt r1)],2⟩ ?_
 obtain ⟨r2,hr2,h⟩:=bsome h
 refine Og [(0,rb 0 s_Stmt r1)] [(100,rb 1 s_Stmt r2)] [vs 7 1 s_Stmt r1] [vs 0 0 s_Stmt r1] [(7,0,0)] [(100,8,2)] [(8,rb 2 s_Stmt r2)] (.sl 100 1 0 (s_Stmt.F r2).length false) (.sl 8 2 0 (s_Stmt.F r2).length false) 3 en80 (Clip_Stmt_o_ok hr2) ?_
 refine Sz hT 1 [3] ⟨[(3,.sl 8 2 0 (s_Stmt.F r2).length false)],[(8,rb 2 s_Stmt r2)],3⟩ ?_
 refine WA_seq ?_
 refine Qgd hT 1 [3,9] [(9,.sl 8 2 0 (s_Stmt.F r2).length false)] ?_
 refine One' hT rfl (v_len_own s_Stmt 8 2 false (rb 2 s_Stmt r2) r2) ?_
 refine Szd hT 1 [3,9,10,11] [(10,vi (ln r2)),(11,vi 0)] ?_
 refine WA_block ?_
 refine lK [3,9,10,11] [(8,8,1)] (fun k s=>∃ q,q ≤ k ∧ q ≤ n ∧ ∃ (l3 : List Stmt),∃ (i4 : Int),tree_copyBlock_L0 q a0 r1 r2 l3 i4 = some r ∧ s = ⟨[(3,.sl 8 1 0 (s_Stmt.F l3).length false),(9,.sl 8 1 0 (s_Stmt.F l3).length false),(10,vi (ln r2)),(11,vi i4)],[(8,rb 1 s_Stmt l3)],2⟩) n ⟨n,Nat.le_refl _,Nat.le_refl _,r2,0,h,rfl⟩ (by rintro s ⟨q,hq,_,l3,i4,h,_⟩; obtain rfl:=Nat.le_zero.1 hq; rw [tree_copyBlock_L0] at h; cases h) ?_
 clear h
 rintro k1 s ⟨q1,hk1,hn1,l3,i4,h,rfl⟩
 rcases q1 with _ | q1
 ·rw [tree_copyBlock_L0] at h; cases h
 rw [tree_copyBlock_L0] at h
 refine Qzd hT 1 [3,9,10,11,12] [(12,vb (decide (i4 < (ln r2))))] ?_
 refine WA_seq ?_
 refine Ci h (fun h=>?_) fun h=>?_
 ·refine WA_skip ?_
  refine WA_seq ?_
  refine WA_block ?_
  refine Qgd hT 1 [3,9,10,11,13] [(13,vi i4)] ?_
  obtain ⟨x5,hx5,h⟩:=bsome h
  refine One' hT rfl (v_index_own s_Stmt 8 1 false (rb 1 s_Stmt l3) l3 .i64 i4 hx5) ?_
  refine Sgd hT 0 [3,9,10,11,13,14] [(14,.box 8 1 i4.toNat 0)] ?_
  refine One' hT rfl (v_load_row s_Stmt 8 1 (rb 1 s_Stmt l3) l3 i4.toNat 0 x5 (eStmt x5) (idx_some hx5).2) ?_
  refine Szh hT 3 [3,4,5,9,10,11] [(4,vi i4),(5,bx 5 2)] [(5,cb 2 101 11 (eStmt x5)),(8,rb 1 s_Stmt l3)] 3 ?_
  refine Rgd hT 3 [3,9,10,11,16,17,18] [(16,.sl 8 1 0 (s_Stmt.F l3).length false),(17,vi i4),(18,eStmt x5)] ?_
  obtain ⟨r6,hr6,h⟩:=bsome h
  refine Pt' en79 ((ih _ (by omega)).2 hr6) ?_
  refine Sgd hT 0 [3,9,10,11,16,17,19] [(19,eStmt r6)] ?_
  obtain ⟨x7,hx7,h⟩:=bsome h
  refine One' hT rfl (v_index_own s_Stmt 8 1 false (rb 1 s_Stmt l3) l3 .i64 i4 hx7) ?_
  refine Sg hT 0 [3,9,10,11,19,20] ⟨[(3,.sl 8 1 0 (s_Stmt.F l3).length false),(9,.sl 8 1 0 (s_Stmt.F l3).length false),(10,vi (ln r2)),(11,vi i4),(19,eStmt r6),(20,.box 8 1 i4.toNat 0)],[(5,cb 2 101 11 (eStmt x5)),(8,rb 1 s_Stmt l3)],3⟩ ?_
  refine One' hT rfl (v_storeRow s_Stmt 8 1 (rb 1 s_Stmt l3) l3 i4.toNat 0 x7 r6 (idx_some hx7).2) ?_
  refine oW [3,9,10,11,19] ⟨[(3,.sl 8 1 0 (s_Stmt.F l3).length false),(9,.sl 8 1 0 (s_Stmt.F l3).length false),(10,vi (ln r2)),(11,vi i4),(19,eStmt r6)],[(8,rb 1 s_Stmt (l3.set i4.toNat r6)),(5,cb 2 101 11 (eStmt x5))],3⟩ ?_
  refine WO_weak (wL [(3,.sl 8 1 0 (s_Stmt.F (l3.set i4.toNat r6)).length false),(9,.sl 8 1 0 (s_Stmt.F (l3.set i4.toNat r6)).length false),(10,vi (ln r2)),(11,vi i4),(19,eStmt r6)] [(8,rb 1 s_Stmt (l3.set i4.toNat r6)),(5,cb 2 101 11 (eStmt x5))] ⟨(VLf.slen (by simp [TE.len,lcopy_length,rcopy_length,clr_length])),(VLf.slen (by simp [TE.len,lcopy_length,rcopy_length,clr_length])),VLf.refl _,VLf.refl _,VLf.refl _,trivial⟩ (HLe.refl _)) ?_
  refine Szh hT 0 [3,9,10,11] [] [(8,rb 1 s_Stmt (l3.set i4.toNat r6)),(5,cb 2 101 11 (eStmt x5))] 3 ?_
  refine Rgd hT 2 [3,9,10,11] [(11,vi (wr (i4 + 1)))] ?_
  exact oK [3,9,10,11] [(8,8,1)] ⟨_,by omega,by omega,l3.set i4.toNat r6,wr (i4 + 1),h,rfl⟩
 refine WA_exit ?_
 refine Qzd hT 2 [2] [(2,.sl 8 1 0 (s_Stmt.F l3).length false)] ?_
 obtain rfl:=Option.some.inj h
 exact rK [2] [(8,100,1)] ⟨[(2,.sl 100 1 0 (s_Stmt.F l3).length false)],[(100,rb 1 s_Stmt l3)],2⟩ ⟨by kernel_rfl,by kernel_rfl,rfl⟩
theorem tree_copyStmt_step (n : Nat) (ih : ∀ m,m < n → tree_copyBlock_spec m) : ∀ {a0 : Stmt} {r : Stmt},tree_copyStmt n a0 = some r → PT Tryz.prog 79 [eStmt a0] (eStmt r):=by
 intro a0 r h
 rcases n with _ | n
 ·rw [tree_copyStmt] at h; cases h
 rw [tree_copyStmt] at h
 refine PT_bodyA hT Tryz.func79 rfl (by kernel_rfl) fun bad w=>?_
 refine Qz hT 2 [1,2] ⟨[(1,bx 1 0),(2,bx 2 1)],[(2,cb 1 101 11 (.agg [vi 0,vw b0,vw b0,vi 0,vi 0,vi 0,vw b0,vn,vn,vn,vz c0])),(1,cb 0 101 11 (eStmt a0))],2⟩ ?_
 refine WA_seq ?_
 refine WA_drawW hT hM (by kernel_rfl) ?_
 refine Ds 2 [(4,eExpr a0.E),(3,.box 1 0 0 4)] [] [(0,[1]),(1,[1])] ?_
 obtain ⟨r1,hr1,h⟩:=bsome h
 refine Dp [eExpr a0.E] (eExpr r1) en113 (tree_copyExpr_ok hr1) ?_
 refine Ds 2 [(7,po s_Stmt a0.Body),(6,.box 1 0 0 8)] [] [(3,[1]),(4,[1])] ?_
 obtain ⟨r2,hr2,h⟩:=bsome h
 refine Dp [po s_Stmt a0.Body] (po s_Stmt r2) en114 (PT_of_GO ((ih _ (by omega)).1 hr2)) ?_
 refine Ds 2 [(10,po s_Stmt a0.Else),(9,.box 1 0 0 9)] [] [(6,[1]),(7,[1])] ?_
 obtain ⟨r3,hr3,h⟩:=bsome h
 refine Dp [po s_Stmt a0.Else] (po s_Stmt r3) en114 (PT_of_GO ((ih _ (by omega)).1 hr3)) ?_
 refine Dh 6 [(14,.box 1 0 0 9),(13,.box 1 0 0 8),(12,.box 1 0 0 4)] [(1,cb 0 101 11 (.agg [vi a0.Kind,vw a0.Name,vw a0.Other,vi a0.N,vi r1.Kind,vi r1.N,vw r1.Name,po s_Expr r1.Of,po s_Stmt r2,po s_Stmt r3,vz a0.At])),(2,cb 1 101 11 (.agg [vi 0,vw b0,vw b0,vi 0,vi 0,vi 0,vw b0,vn,vn,vn,vz c0]))] 2 [(10,[1]),(12,[1]),(14,[1])] [(9,[1]),(11,[1]),(13,[1])] ?_
 refine De ?_
 refine Wk_done ?_
 refine Qz hT 2 [2] ⟨[(2,bx 2 1)],[(2,cb 1 101 11 (.agg [vi a0.Kind,vw a0.Name,vw a0.Other,vi a0.N,vi r1.Kind,vi r1.N,vw r1.Name,po s_Expr r1.Of,po s_Stmt r2,po s_Stmt r3,vz a0.At])),(1,cb 0 101 11 (.agg [vi a0.Kind,vw a0.Name,vw a0.Other,vi a0.N,vi r1.Kind,vi r1.N,vw r1.Name,po s_Expr r1.Of,po s_Stmt r2,po s_Stmt r3,vz a0.At]))],2⟩ ?_
 refine aW [2] ⟨[(2,bx 2 1)],[(2,cb 1 101 11 (.agg [vi a0.Kind,vw a0.Name,vw a0.Other,vi a0.N,vi r1.Kind,vi r1.N,vw r1.Name,po s_Expr r1.Of,po s_Stmt r2,po s_Stmt r3,vz a0.At])),(1,cb 0 101 11 (.agg [vi a0.Kind,vw a0.Name,vw a0.Other,vi a0.N,vi r1.Kind,vi r1.N,vw r1.Name,po s_Expr r1.Of,po s_Stmt r2,po s_Stmt r3,vz a0.At]))],2⟩ ?_
 refine WA_weak (wL [(2,bx 2 1)] [(2,cb 1 101 11 (eStmt (Stmt.mk a0.Kind a0.Name a0.Other a0.N r1 r2 r3 a0.At))),(1,cb 0 101 11 (.agg [vi a0.Kind,vw a0.Name,vw a0.Other,vi a0.N,vi r1.Kind,vi r1.N,vw r1.Name,po s_Expr r1.Of,po s_Stmt r2,po s_Stmt r3,vz a0.At]))] ⟨VLf.refl _,trivial⟩ ⟨rfl,.inr (.inl ⟨rfl,rfl,CLe.agg ⟨VLf.refl _,VLf.refl _,VLf.refl _,VLf.refl _,VLf.refl _,VLf.refl _,VLf.refl _,VLf.refl _,VLf.refl _,VLf.refl _,VLf.refl _,trivial⟩,trivial⟩),rfl,.inl rfl,trivial⟩) ?_
 obtain rfl:=Option.some.inj h
 exact rR [(2,1000,0)] ⟨[(2,bx 1000 0)],[(1000,cb 0 101 11 (eStmt (Stmt.mk a0.Kind a0.Name a0.Other a0.N r1 r2 r3 a0.At)))],1⟩ ⟨by kernel_rfl,rfl⟩
theorem tree_copyBlock_all (n : Nat) : tree_copyBlock_spec n:=by
 induction n using Nat.strongRecOn with
 | _ n ih=>exact ⟨tree_copyBlock_step n ih,tree_copyStmt_step n ih⟩
theorem tree_copyStmt_ok {n : Nat} {a0 : Stmt} {r : Stmt} (h : tree_copyStmt n a0 = some r) : PT Tryz.prog 79 [eStmt a0] (eStmt r):=(tree_copyBlock_all n).2 h
theorem Clip_Stmt_ok {n : Nat} {a0 : List Stmt} {r : List Stmt} (h : Clip_Stmt n a0 = some r) : PT Tryz.prog 80 [po s_Stmt a0] (.ps .fopt (s_Stmt.F r)):=by
 unfold Clip_Stmt at h
 refine PT_bodyA hT Tryz.func80 rfl (by kernel_rfl) fun bad w=>?_
 refine Qzd hT 1 [0] [] ?_
 refine Qgd hT 2 [0,3,4] [(3,po s_Stmt a0),(4,po s_Stmt a0)] ?_
 refine One' hT rfl (v_len s_Stmt .opt a0) ?_
 refine Sgd hT 1 [3,5,6] [(5,vi (ln a0)),(6,po s_Stmt a0)] ?_
 refine One' hT rfl (v_len s_Stmt .opt a0) ?_
 refine Sgd hT 0 [3,5,7] [(7,vi (ln a0))] ?_
 obtain ⟨l1,hl1,h⟩:=bsome h
 refine One' hT rfl (v_slice s_Stmt .opt a0 0 (ln a0) (some (ln a0)) l1 .fopt hl1 (by intro y hy; cases hy; rfl)) ?_
 refine Sz hT 1 [2] ⟨[(2,.ps .fopt (s_Stmt.F l1))],[],0⟩ ?_
 obtain rfl:=Option.some.inj h
 exact rK [2] [] ⟨[(2,.ps .fopt (s_Stmt.F l1))],[],1⟩ ⟨by kernel_rfl,rfl⟩
theorem tree_List_ok {n : Nat} {a0 : Prog} {r : List Stmt} (h : tree_List n a0 = some r) : PT Tryz.prog 51 [eProg a0] (.ps .fopt (s_Stmt.F r)):=by
 unfold tree_List at h
 refine PT_bodyA hT Tryz.func51 rfl (by kernel_rfl) fun bad w=>?_
 refine Qz hT 2 [1] ⟨[(1,bx 1 0)],[(1,cb 0 27 2 (eProg a0))],1⟩ ?_
 refine Qzd hT 1 [1,3] [(3,vn)] ?_
 refine WA_seq ?_
 refine Qgd hT 2 [3,9] [(9,po s_LStmt a0.Threads)] ?_
 refine One' hT rfl (v_len s_LStmt .opt a0.Threads) ?_
 refine Szd hT 1 [3,9,10,11] [(10,vi (ln a0.Threads)),(11,vi 0)] ?_
 refine WA_block ?_
 refine aW [3,9,10,11] ⟨[(3,vn),(9,po s_LStmt a0.Threads),(10,vi (ln a0.Threads)),(11,vi 0)],[(1,cb 0 27 2 (eProg a0))],1⟩ ?_
 refine WA_weak (wO 3 5000 101 11) ?_
 refine lK [3,9,10,11] [(5000,10003,0)] (fun k s=>∃ q,q ≤ k ∧ q ≤ n ∧ ∃ (l1 : List Stmt),∃ (i2 : Int),tree_List_L0 q a0 l1 i2 = some r ∧ s = ⟨[(3,vs 10003 0 s_Stmt l1),(9,po s_LStmt a0.Threads),(10,vi (ln a0.Threads)),(11,vi i2)],[(10003,rb 0 s_Stmt l1)],1⟩) n ⟨n,Nat.le_refl _,Nat.le_refl _,([] : List Stmt),0,h,rfl⟩ (by rintro s ⟨q,hq,_,l1,i2,h,_⟩; obtain rfl:=Nat.le_zero.1 hq; rw [tree_List_L0] at h; cases h) ?_
 clear h
 rintro k1 s ⟨q1,hk1,hn1,l1,i2,h,rfl⟩
 rcases q1 with _ | q1
 ·rw [tree_List_L0] at h; cases h
 rw [tree_List_L0] at h
 refine Qzd hT 1 [3,9,10,11,12] [(12,vb (decide (i2 < (ln a0.Threads))))] ?_
 refine WA_seq ?_
 refine Ci h (fun h=>?_) fun h=>?_
 ·refine WA_skip ?_
  refine WA_seq ?_
  refine WA_block ?_
  refine Qgd hT 0 [3,9,10,11] [] ?_
  obtain ⟨x3,hx3,h⟩:=bsome h
  refine One' hT rfl (v_index s_LStmt .opt a0.Threads .i64 i2 hx3) ?_
  refine Sz hT 2 [3,5,9,10,11] ⟨[(3,vs 10003 0 s_Stmt l1),(5,po s_Stmt x3),(9,po s_LStmt a0.Threads),(10,vi (ln a0.Threads)),(11,vi i2)],[(10003,rb 0 s_Stmt l1)],1⟩ ?_
  refine Rgd hT 2 [9,10,11,15,16] [(15,vs 10003 0 s_Stmt l1),(16,po s_Stmt x3)] ?_
  obtain ⟨r4,hr4,h⟩:=bsome h
  refine Og [(0,rb 0 s_Stmt l1)] [(100,rb 1 s_Stmt r4)] [vs 10003 0 s_Stmt l1,po s_Stmt x3] [vs 0 0 s_Stmt l1,po s_Stmt x3] [(10003,0,0)] [(100,17,1)] [(17,rb 1 s_Stmt r4)] (vs 100 1 s_Stmt r4) (vs 17 1 s_Stmt r4) 2 en78 (tree_listed_o_ok hr4) ?_
  refine Szh hT 1 [3,9,10,11] [(3,vs 17 1 s_Stmt r4)] [(17,rb 1 s_Stmt r4)] 2 ?_
  refine Rgd hT 2 [3,9,10,11] [(11,vi (wr (i2 + 1)))] ?_
  exact oK [3,9,10,11] [(17,10003,0)] ⟨_,by omega,by omega,r4,wr (i2 + 1),h,rfl⟩
 refine WA_exit ?_
 refine WA_seq ?_
 refine Qgd hT 1 [3,19] [(19,vs 10003 0 s_Stmt l1)] ?_
 refine One' hT rfl (v_len_own s_Stmt 10003 0 true (rb 0 s_Stmt l1) l1) ?_
 refine Szd hT 1 [3,19,20,21] [(20,vi (ln l1)),(21,vi 0)] ?_
 refine WA_block ?_
 refine lK [3,19,20,21] [(10003,10003,0)] (fun k s=>∃ q,q ≤ k ∧ q ≤ q1 ∧ ∃ (l5 : List Stmt),∃ (i6 : Int),tree_List_L1 q a0 l1 i2 l5 i6 = some r ∧ s = ⟨[(3,vs 10003 0 s_Stmt l5),(19,vs 10003 0 s_Stmt l5),(20,vi (ln l1)),(21,vi i6)],[(10003,rb 0 s_Stmt l5)],1⟩) q1 ⟨q1,Nat.le_refl _,Nat.le_refl _,l1,0,h,rfl⟩ (by rintro s ⟨q,hq,_,l5,i6,h,_⟩; obtain rfl:=Nat.le_zero.1 hq; rw [tree_List_L1] at h; cases h) ?_
 clear h
 rintro k2 s ⟨q2,hk2,hn2,l5,i6,h,rfl⟩
 rcases q2 with _ | q2
 ·rw [tree_List_L1] at h; cases h
 rw [tree_List_L1] at h
 refine Qzd hT 1 [3,19,20,21,22] [(22,vb (decide (i6 < (ln l1))))] ?_
 refine WA_seq ?_
 refine Ci h (fun h=>?_) fun h=>?_
 ·refine WA_skip ?_
  refine WA_seq ?_
  refine WA_block ?_
  refine Qgd hT 1 [3,19,20,21,23] [(23,vi i6)] ?_
  obtain ⟨x7,hx7,h⟩:=bsome h
  refine One' hT rfl (v_index_own s_Stmt 10003 0 true (rb 0 s_Stmt l5) l5 .i64 i6 hx7) ?_
  refine Sgd hT 0 [3,19,20,21,23,24] [(24,.box 10003 0 i6.toNat 0)] ?_
  refine One' hT rfl (v_load_row s_Stmt 10003 0 (rb 0 s_Stmt l5) l5 i6.toNat 0 x7 (eStmt x7) (idx_some hx7).2) ?_
  refine Sz hT 3 [3,6,7,19,20,21] ⟨[(3,vs 10003 0 s_Stmt l5),(6,vi i6),(7,bx 7 1),(19,vs 10003 0 s_Stmt l5),(20,vi (ln l1)),(21,vi i6)],[(7,cb 1 101 11 (eStmt x7)),(10003,rb 0 s_Stmt l5)],2⟩ ?_
  refine Rgd hT 3 [3,19,20,21,26,27,28] [(26,vs 10003 0 s_Stmt l5),(27,vi i6),(28,eStmt x7)] ?_
  obtain ⟨r8,hr8,h⟩:=bsome h
  refine Pt' en79 (tree_copyStmt_ok hr8) ?_
  refine Sgd hT 0 [3,19,20,21,26,27,29] [(29,eStmt r8)] ?_
  obtain ⟨x9,hx9,h⟩:=bsome h
  refine One' hT rfl (v_index_own s_Stmt 10003 0 true (rb 0 s_Stmt l5) l5 .i64 i6 hx9) ?_
  refine Sgd hT 0 [3,19,20,21,29,30] [(30,.box 10003 0 i6.toNat 0)] ?_
  refine One' hT rfl (v_storeRow s_Stmt 10003 0 (rb 0 s_Stmt l5) l5 i6.toNat 0 x9 r8 (idx_some hx9).2) ?_
  refine oW [3,19,20,21,29] ⟨[(3,vs 10003 0 s_Stmt l5),(19,vs 10003 0 s_Stmt l5),(20,vi (ln l1)),(21,vi i6),(29,eStmt r8)],[(10003,rb 0 s_Stmt (l5.set i6.toNat r8)),(7,cb 1 101 11 (eStmt x7))],2⟩ ?_
  refine WO_weak (wL [(3,vs 10003 0 s_Stmt (l5.set i6.toNat r8)),(19,vs 10003 0 s_Stmt (l5.set i6.toNat r8)),(20,vi (ln l1)),(21,vi i6),(29,eStmt r8)] [(10003,rb 0 s_Stmt (l5.set i6.toNat r8)),(7,cb 1 101 11 (eStmt x7))] ⟨(VLf.slen (by simp [TE.len,lcopy_length,rcopy_length,clr_length])),(VLf.slen (by simp [TE.len,lcopy_length,rcopy_length,clr_length])),VLf.refl _,VLf.refl _,VLf.refl _,trivial⟩ (HLe.refl _)) ?_
  refine Szh hT 0 [3,19,20,21] [] [(10003,rb 0 s_Stmt (l5.set i6.toNat r8)),(7,cb 1 101 11 (eStmt x7))] 2 ?_
  refine Rgd hT 2 [3,19,20,21] [(21,vi (wr (i6 + 1)))] ?_
  exact oK [3,19,20,21] [(10003,10003,0)] ⟨_,by omega,by omega,l5.set i6.toNat r8,wr (i6 + 1),h,rfl⟩
 refine WA_exit ?_
 refine Qgd hT 1 [32] [(32,vs 10003 0 s_Stmt l5)] ?_
 refine WO_weak (wF 10003 0 (rb 0 s_Stmt l5) [(32,po s_Stmt l5)] [] ⟨rfl,.hit true,trivial⟩ trivial) ?_
 obtain ⟨r10,hr10,h⟩:=bsome h
 refine Pt' en80 (Clip_Stmt_ok hr10) ?_
 refine Sz hT 1 [2] ⟨[(2,.ps .fopt (s_Stmt.F r10))],[],1⟩ ?_
 obtain rfl:=Option.some.inj h
 exact rK [2] [] ⟨[(2,.ps .fopt (s_Stmt.F r10))],[],1⟩ ⟨by kernel_rfl,rfl⟩
theorem Clip_string_ok {n : Nat} {a0 : List ByteArray} {r : List ByteArray} (h : Clip_string n a0 = some r) : PT Tryz.prog 117 [po s_string a0] (.ps .fopt (s_string.F r)):=by
 unfold Clip_string at h
 refine PT_bodyA hT Tryz.func117 rfl (by kernel_rfl) fun bad w=>?_
 refine Qzd hT 1 [0] [] ?_
 refine Qgd hT 2 [0,3,4] [(3,po s_string a0),(4,po s_string a0)] ?_
 refine One' hT rfl (v_len s_string .opt a0) ?_
 refine Sgd hT 1 [3,5,6] [(5,vi (ln a0)),(6,po s_string a0)] ?_
 refine One' hT rfl (v_len s_string .opt a0) ?_
 refine Sgd hT 0 [3,5,7] [(7,vi (ln a0))] ?_
 obtain ⟨l1,hl1,h⟩:=bsome h
 refine One' hT rfl (v_slice s_string .opt a0 0 (ln a0) (some (ln a0)) l1 .fopt hl1 (by intro y hy; cases hy; rfl)) ?_
 refine Sz hT 1 [2] ⟨[(2,.ps .fopt (s_string.F l1))],[],0⟩ ?_
 obtain rfl:=Option.some.inj h
 exact rK [2] [] ⟨[(2,.ps .fopt (s_string.F l1))],[],1⟩ ⟨by kernel_rfl,rfl⟩
def tree_Names_spec (n : Nat) : Prop:=(∀ {a0 : Expr} {r : List ByteArray},tree_Names n a0 = some r → PT Tryz.prog 116 [eExpr a0] (.ps .fopt (s_string.F r)))
theorem tree_Names_step (n : Nat) (ih : ∀ m,m < n → tree_Names_spec m) : ∀ {a0 : Expr} {r : List ByteArray},tree_Names n a0 = some r → PT Tryz.prog 116 [eExpr a0] (.ps .fopt (s_string.F r)):=by
 intro a0 r h
 rcases n with _ | n
 ·rw [tree_Names] at h; cases h
 rw [tree_Names] at h
 refine PT_bodyA hT Tryz.func116 rfl (by kernel_rfl) fun bad w=>?_
 refine Qz hT 2 [1] ⟨[(1,bx 1 0)],[(1,cb 0 99 4 (eExpr a0))],1⟩ ?_
 refine Qzd hT 1 [1,3] [(3,vn)] ?_
 refine WA_seq ?_
 refine Qzd hT 3 [1,3,8] [(8,vb (a0.Kind == 2))] ?_
 obtain ⟨J2,hJ2,h⟩:=jsome h
 refine WA_join (fun s=>∃ (l1 : List ByteArray),J2 l1 = some r ∧ s = ⟨[(1,bx 1 0),(3,vs 10003 0 s_string l1)],[(1,cb 0 99 4 (eExpr a0)),(10003,rb 0 s_string l1)],1⟩) ?_ ?_
 ·refine Ci h (fun h=>?_) fun h=>?_
  ·refine Rg hT 4 [1,9,12] ⟨[(1,bx 1 0),(9,vn),(12,vs 12 1 s_string [a0.Name])],[(12,⟨1,9,1,false,false,s_string.F [a0.Name]⟩),(1,cb 0 99 4 (eExpr a0))],2⟩ ?_
   refine WO_weak (wO 9 6013 9 1) ?_
   obtain ⟨g3,h⟩:=gsome h
   refine Oa hT s_string 6013 2 true ([] : List ByteArray) [a0.Name] (eO s_string 12 1 true ⟨1,9,1,false,false,s_string.F [a0.Name]⟩ [a0.Name]) g3 ?_
   refine Sg hT 1 [1,3] ⟨[(1,bx 1 0),(3,vs 13 3 s_string (([] : List ByteArray) ++ [a0.Name]))],[(13,rb 3 s_string (([] : List ByteArray) ++ [a0.Name])),(12,⟨1,9,1,false,false,s_string.F [a0.Name]⟩),(1,cb 0 99 4 (eExpr a0))],4⟩ ?_
   exact oK [1,3] [(1,1,0),(13,10003,0)] ⟨([] : List ByteArray) ++ [a0.Name],h,rfl⟩
  refine aW [1,3] ⟨[(1,bx 1 0),(3,vn)],[(1,cb 0 99 4 (eExpr a0))],1⟩ ?_
  refine WA_weak (wO 3 5000 9 1) ?_
  exact sK [1,3] [(1,1,0),(5000,10003,0)] ⟨([] : List ByteArray),h,rfl⟩
 subst hJ2
 rintro s ⟨l1,h,rfl⟩
 refine WA_seq ?_
 refine Qgd hT 2 [3,15] [(15,po s_Expr a0.Of)] ?_
 refine One' hT rfl (v_len s_Expr .opt a0.Of) ?_
 refine Szd hT 1 [3,15,16,17] [(16,vi (ln a0.Of)),(17,vi 0)] ?_
 refine WA_block ?_
 refine lK [3,15,16,17] [(10003,10003,0)] (fun k s=>∃ q,q ≤ k ∧ q ≤ n ∧ ∃ (l4 : List ByteArray),∃ (i5 : Int),tree_Names_L0 q a0 l1 l4 i5 = some r ∧ s = ⟨[(3,vs 10003 0 s_string l4),(15,po s_Expr a0.Of),(16,vi (ln a0.Of)),(17,vi i5)],[(10003,rb 0 s_string l4)],1⟩) n ⟨n,Nat.le_refl _,Nat.le_refl _,l1,0,h,rfl⟩ (by rintro s ⟨q,hq,_,l4,i5,h,_⟩; obtain rfl:=Nat.le_zero.1 hq; rw [tree_Names_L0] at h; cases h) ?_
 clear h
 rintro k1 s ⟨q1,hk1,hn1,l4,i5,h,rfl⟩
 rcases q1 with _ | q1
 ·rw [tree_Names_L0] at h; cases h
 rw [tree_Names_L0] at h
 refine Qzd hT 1 [3,15,16,17,18] [(18,vb (decide (i5 < (ln a0.Of))))] ?_
 refine WA_seq ?_
 refine Ci h (fun h=>?_) fun h=>?_
 ·refine WA_skip ?_
  refine WA_seq ?_
  refine WA_block ?_
  refine Qg hT 0 [3,15,16,17] ⟨[(3,vs 10003 0 s_string l4),(15,po s_Expr a0.Of),(16,vi (ln a0.Of)),(17,vi i5)],[(10003,rb 0 s_string l4)],1⟩ ?_
  obtain ⟨x6,hx6,h⟩:=bsome h
  refine One' hT rfl (v_index s_Expr .opt a0.Of .i64 i5 hx6) ?_
  refine Szh hT 3 [3,5,15,16,17] [(5,bx 5 1)] [(5,cb 1 99 4 (eExpr x6)),(10003,rb 0 s_string l4)] 2 ?_
  refine Rgd hT 2 [15,16,17,21,22] [(21,vs 10003 0 s_string l4),(22,eExpr x6)] ?_
  obtain ⟨r7,hr7,h⟩:=bsome h
  refine Pt' en116 ((ih _ (by omega)) hr7) ?_
  refine Sgd hT 0 [15,16,17,21,23] [(23,.ps .fopt (s_string.F r7))] ?_
  obtain ⟨g8,h⟩:=gsome h
  refine Oa hT s_string 10003 0 true l4 r7 (by kernel_rfl) g8 ?_
  refine Szh hT 1 [3,15,16,17] [(3,vs 24 2 s_string (l4 ++ r7))] [(24,rb 2 s_string (l4 ++ r7)),(5,cb 1 99 4 (eExpr x6))] 3 ?_
  refine Rgd hT 2 [3,15,16,17] [(17,vi (wr (i5 + 1)))] ?_
  exact oK [3,15,16,17] [(24,10003,0)] ⟨_,by omega,by omega,l4 ++ r7,wr (i5 + 1),h,rfl⟩
 refine WA_exit ?_
 refine Qgd hT 1 [26] [(26,vs 10003 0 s_string l4)] ?_
 refine WO_weak (wF 10003 0 (rb 0 s_string l4) [(26,po s_string l4)] [] ⟨rfl,.hit true,trivial⟩ trivial) ?_
 obtain ⟨r9,hr9,h⟩:=bsome h
 refine Pt' en117 (Clip_string_ok hr9) ?_
 refine Sz hT 1 [2] ⟨[(2,.ps .fopt (s_string.F r9))],[],1⟩ ?_
 obtain rfl:=Option.some.inj h
 exact rK [2] [] ⟨[(2,.ps .fopt (s_string.F r9))],[],1⟩ ⟨by kernel_rfl,rfl⟩
theorem tree_Names_all (n : Nat) : tree_Names_spec n:=by
 induction n using Nat.strongRecOn with
 | _ n ih=>exact tree_Names_step n ih
theorem tree_Names_ok {n : Nat} {a0 : Expr} {r : List ByteArray} (h : tree_Names n a0 = some r) : PT Tryz.prog 116 [eExpr a0] (.ps .fopt (s_string.F r)):=(tree_Names_all n) h
theorem tree_Touches_ok {n : Nat} {a0 : Stmt} {r : List ByteArray} (h : tree_Touches n a0 = some r) : PT Tryz.prog 82 [eStmt a0] (.ps .fopt (s_string.F r)):=by
 unfold tree_Touches at h
 refine PT_bodyA hT Tryz.func82 rfl (by kernel_rfl) fun bad w=>?_
 refine Qz hT 2 [1] ⟨[(1,bx 1 0)],[(1,cb 0 101 11 (eStmt a0))],1⟩ ?_
 refine Qzd hT 1 [1,3] [(3,vn)] ?_
 refine WA_seq ?_
 refine Qzd hT 2 [1,3,5] [(5,vi a0.Kind)] ?_
 obtain ⟨J2,hJ2,h⟩:=jsome h
 refine WA_join (fun s=>∃ (l1 : List ByteArray),J2 l1 = some r ∧ s = ⟨[(1,bx 1 0),(3,.ps .fopt (s_string.F l1))],[(1,cb 0 101 11 (eStmt a0))],1⟩) ?_ ?_
 ·refine WA_block ?_
  refine WA_seq ?_
  refine Qzd hT 2 [1,3,5,6] [(6,vb (a0.Kind == 1))] ?_
  obtain ⟨J4,hJ4,h⟩:=jsome h
  refine WA_join (fun s=>∃ (b3 : Bool),J4 b3 = some r ∧ s = ⟨[(1,bx 1 0),(3,vn),(6,vb b3)],[(1,cb 0 101 11 (eStmt a0))],1⟩) ?_ ?_
  ·refine Ci h (fun h=>?_) fun h=>?_
   ·exact sK [1,3,6] [(1,1,0)] ⟨(a0.Kind == 1),h,rfl⟩
   refine Qzd hT 2 [1,3,5,6] [(6,vb (a0.Kind == 4))] ?_
   refine Ci h (fun h=>?_) fun h=>?_
   ·exact sK [1,3,6] [(1,1,0)] ⟨(a0.Kind == 4),h,rfl⟩
   refine Qzd hT 2 [1,3,5,6] [(6,vb (a0.Kind == 6))] ?_
   refine Ci h (fun h=>?_) fun h=>?_
   ·exact sK [1,3,6] [(1,1,0)] ⟨(a0.Kind == 6),h,rfl⟩
   refine Rg hT 2 [1,3,6] ⟨[(1,bx 1 0),(3,vn),(6,vb (a0.Kind == 7))],[(1,cb 0 101 11 (eStmt a0))],1⟩ ?_
   exact oK [1,3,6] [(1,1,0)] ⟨(a0.Kind == 7),h,rfl⟩
  subst hJ4
  rintro s ⟨b3,h,rfl⟩
  skip
  refine Ci h (fun h=>?_) fun h=>?_
  ·refine Rgd hT 2 [1,12] [(12,eExpr a0.E)] ?_
   obtain ⟨r5,hr5,h⟩:=bsome h
   refine Pt' en116 (tree_Names_ok hr5) ?_
   refine Sgd hT 1 [1,3] [(3,.ps .fopt (s_string.F r5))] ?_
   exact oK [1,3] [(1,1,0)] ⟨r5,h,rfl⟩
  refine aW [1,3] ⟨[(1,bx 1 0),(3,vn)],[(1,cb 0 101 11 (eStmt a0))],1⟩ ?_
  refine WA_weak (wL [(1,bx 1 0),(3,.ps .fopt (s_string.F []))] [(1,cb 0 101 11 (eStmt a0))] ⟨VLf.refl _,(VLe.f VLe.nil_fopt rfl),trivial⟩ ⟨rfl,.inl rfl,trivial⟩) ?_
  exact sR [(1,1,0)] ⟨[],h,rfl⟩
 subst hJ2
 rintro s ⟨l1,h,rfl⟩
 refine WA_seq ?_
 refine Qzd hT 2 [1,3,15] [(15,vi a0.Kind)] ?_
 obtain ⟨J7,hJ7,h⟩:=jsome h
 refine WA_join (fun s=>∃ (l6 : List ByteArray),J7 l6 = some r ∧ s = ⟨[(3,po s_string l6)],[],1⟩) ?_ ?_
 ·refine WA_block ?_
  refine Qzd hT 2 [1,3,15,16] [(16,vb (a0.Kind == 1))] ?_
  refine Ci h (fun h=>?_) fun h=>?_
  ·refine Rg hT 4 [18,21] ⟨[(18,.ps .fopt (s_string.F l1)),(21,vs 21 1 s_string [a0.Name])],[(21,⟨1,9,1,false,false,s_string.F [a0.Name]⟩),(1,cb 0 101 11 (eStmt a0))],2⟩ ?_
   obtain ⟨g8,h⟩:=gsome h
   refine One' hT rfl (ev_appendF s_string .fopt l1 [a0.Name] (by decide) (by kernel_rfl) (eO s_string 21 1 true ⟨1,9,1,false,false,s_string.F [a0.Name]⟩ [a0.Name]) (by simp) g8) ?_
   refine Sg hT 1 [3] ⟨[(3,vs 22 2 s_string (l1 ++ [a0.Name]))],[(22,⟨2,9,1,false,false,s_string.F (l1 ++ [a0.Name])⟩),(21,⟨1,9,1,false,false,s_string.F [a0.Name]⟩),(1,cb 0 101 11 (eStmt a0))],3⟩ ?_
   refine oW [3] ⟨[(3,vs 22 2 s_string (l1 ++ [a0.Name]))],[(22,⟨2,9,1,false,false,s_string.F (l1 ++ [a0.Name])⟩),(21,⟨1,9,1,false,false,s_string.F [a0.Name]⟩),(1,cb 0 101 11 (eStmt a0))],3⟩ ?_
   refine WO_weak (wF 22 2 ⟨2,9,1,false,false,s_string.F (l1 ++ [a0.Name])⟩ [(3,po s_string (l1 ++ [a0.Name]))] [(21,⟨1,9,1,false,false,s_string.F [a0.Name]⟩),(1,cb 0 101 11 (eStmt a0))] ⟨rfl,.hit true,trivial⟩ ⟨rfl,.inl rfl,rfl,.inl rfl,trivial⟩) ?_
   exact oR [] ⟨l1 ++ [a0.Name],h,rfl⟩
  refine Qzd hT 2 [1,3,23] [(23,vb (a0.Kind == 5))] ?_
  refine Ci h (fun h=>?_) fun h=>?_
  ·refine Rg hT 4 [25,28] ⟨[(25,.ps .fopt (s_string.F l1)),(28,vs 28 1 s_string [a0.Other])],[(28,⟨1,9,1,false,false,s_string.F [a0.Other]⟩),(1,cb 0 101 11 (eStmt a0))],2⟩ ?_
   obtain ⟨g9,h⟩:=gsome h
   refine One' hT rfl (ev_appendF s_string .fopt l1 [a0.Other] (by decide) (by kernel_rfl) (eO s_string 28 1 true ⟨1,9,1,false,false,s_string.F [a0.Other]⟩ [a0.Other]) (by simp) g9) ?_
   refine Sg hT 1 [3] ⟨[(3,vs 29 2 s_string (l1 ++ [a0.Other]))],[(29,⟨2,9,1,false,false,s_string.F (l1 ++ [a0.Other])⟩),(28,⟨1,9,1,false,false,s_string.F [a0.Other]⟩),(1,cb 0 101 11 (eStmt a0))],3⟩ ?_
   refine oW [3] ⟨[(3,vs 29 2 s_string (l1 ++ [a0.Other]))],[(29,⟨2,9,1,false,false,s_string.F (l1 ++ [a0.Other])⟩),(28,⟨1,9,1,false,false,s_string.F [a0.Other]⟩),(1,cb 0 101 11 (eStmt a0))],3⟩ ?_
   refine WO_weak (wF 29 2 ⟨2,9,1,false,false,s_string.F (l1 ++ [a0.Other])⟩ [(3,po s_string (l1 ++ [a0.Other]))] [(28,⟨1,9,1,false,false,s_string.F [a0.Other]⟩),(1,cb 0 101 11 (eStmt a0))] ⟨rfl,.hit true,trivial⟩ ⟨rfl,.inl rfl,rfl,.inl rfl,trivial⟩) ?_
   exact oR [] ⟨l1 ++ [a0.Other],h,rfl⟩
  refine aW [3] ⟨[(3,.ps .fopt (s_string.F l1))],[(1,cb 0 101 11 (eStmt a0))],1⟩ ?_
  refine WA_weak (wL [(3,po s_string l1)] [(1,cb 0 101 11 (eStmt a0))] ⟨(VLe.f VLe.fopt_opt rfl),trivial⟩ ⟨rfl,.inl rfl,trivial⟩) ?_
  exact sR [] ⟨l1,h,rfl⟩
 subst hJ7
 rintro s ⟨l6,h,rfl⟩
 refine Qg hT 1 [30] ⟨[(30,po s_string l6)],[],1⟩ ?_
 obtain ⟨r10,hr10,h⟩:=bsome h
 refine Pt' en117 (Clip_string_ok hr10) ?_
 refine Sz hT 1 [2] ⟨[(2,.ps .fopt (s_string.F r10))],[],1⟩ ?_
 obtain rfl:=Option.some.inj h
 exact rK [2] [] ⟨[(2,.ps .fopt (s_string.F r10))],[],1⟩ ⟨by kernel_rfl,rfl⟩
theorem Index_string_ok {n : Nat} {a0 : List ByteArray} {a1 : ByteArray} {r : Int} (h : Index_string n a0 a1 = some r) : PT Tryz.prog 118 [po s_string a0,vw a1] (vi r):=by
 unfold Index_string at h
 refine PT_bodyA hT Tryz.func118 rfl (by kernel_rfl) fun bad w=>?_
 refine Qzd hT 1 [0,1] [] ?_
 refine WA_seq ?_
 refine Qgd hT 1 [0,1,6] [(6,po s_string a0)] ?_
 refine One' hT rfl (v_len s_string .opt a0) ?_
 refine Szd hT 1 [0,1,7,8] [(7,vi (ln a0)),(8,vi 0)] ?_
 refine WA_block ?_
 refine lK [0,1,7,8] [] (fun k s=>∃ q,q ≤ k ∧ q ≤ n ∧ ∃ (i1 : Int),Index_string_L0 q a0 a1 i1 = some r ∧ s = ⟨[(0,po s_string a0),(1,vw a1),(7,vi (ln a0)),(8,vi i1)],[],1⟩) n ⟨n,Nat.le_refl _,Nat.le_refl _,0,h,rfl⟩ (by rintro s ⟨q,hq,_,i1,h,_⟩; obtain rfl:=Nat.le_zero.1 hq; rw [Index_string_L0] at h; cases h) ?_
 clear h
 rintro k1 s ⟨q1,hk1,hn1,i1,h,rfl⟩
 rcases q1 with _ | q1
 ·rw [Index_string_L0] at h; cases h
 rw [Index_string_L0] at h
 refine Qzd hT 1 [0,1,7,8,9] [(9,vb (decide (i1 < (ln a0))))] ?_
 refine WA_seq ?_
 refine Ci h (fun h=>?_) fun h=>?_
 ·refine WA_skip ?_
  refine WA_seq ?_
  refine WA_block ?_
  refine Qzd hT 2 [0,1,5,7,8] [(5,vi i1)] ?_
  refine Qgd hT 3 [0,1,5,7,8,11,12,13] [(11,vw a1),(12,po s_string a0),(13,vi i1)] ?_
  obtain ⟨x2,hx2,h⟩:=bsome h
  refine One' hT rfl (v_index s_string .opt a0 .i64 i1 hx2) ?_
  refine Szd hT 2 [0,1,5,7,8,16] [(16,vb (bytesEq a1 x2))] ?_
  refine Ci h (fun h=>?_) fun h=>?_
  ·refine Qz hT 2 [4] ⟨[(4,vi i1)],[],1⟩ ?_
   obtain rfl:=Option.some.inj h
   exact rK [4] [] ⟨[(4,vi i1)],[],1⟩ ⟨by kernel_rfl,rfl⟩
  refine WA_skip ?_
  refine Rgd hT 2 [0,1,7,8] [(8,vi (wr (i1 + 1)))] ?_
  exact oK [0,1,7,8] [] ⟨_,by omega,by omega,wr (i1 + 1),h,rfl⟩
 refine WA_exit ?_
 refine Qz hT 1 [4] ⟨[(4,vi (-1))],[],1⟩ ?_
 obtain rfl:=Option.some.inj h
 exact rK [4] [] ⟨[(4,vi (-1))],[],1⟩ ⟨by kernel_rfl,rfl⟩
theorem Contains_string_ok {n : Nat} {a0 : List ByteArray} {a1 : ByteArray} {r : Bool} (h : Contains_string n a0 a1 = some r) : PT Tryz.prog 84 [po s_string a0,vw a1] (vb r):=by
 unfold Contains_string at h
 refine PT_bodyA hT Tryz.func84 rfl (by kernel_rfl) fun bad w=>?_
 refine Qzd hT 1 [0,1] [] ?_
 refine Qg hT 2 [5,6] ⟨[(5,po s_string a0),(6,vw a1)],[],0⟩ ?_
 obtain ⟨r1,hr1,h⟩:=bsome h
 refine Pt' en118 (Index_string_ok hr1) ?_
 refine Sz hT 2 [4] ⟨[(4,vb (decide (r1 ≥ 0)))],[],0⟩ ?_
 obtain rfl:=Option.some.inj h
 exact rK [4] [] ⟨[(4,vb (decide (r1 ≥ 0)))],[],1⟩ ⟨by kernel_rfl,rfl⟩
theorem cost_touches_1_ok {n : Nat} {a0 : ByteArray} {a1 : List ByteArray} {r : Bool} (h : cost_touches_1 n a0 a1 = some r) : PT Tryz.prog 83 [vw a0,.ref (el_string a1) 0] (vb r):=by
 unfold cost_touches_1 at h
 refine PT_bodyA hT Tryz.func83 rfl (by kernel_rfl) fun bad w=>?_
 refine Qzd hT 1 [0,1] [] ?_
 refine Qg hT 2 [4,5] ⟨[(4,po s_string a1),(5,vw a0)],[],0⟩ ?_
 obtain ⟨r1,hr1,h⟩:=bsome h
 refine Pt' en84 (Contains_string_ok hr1) ?_
 refine Sz hT 1 [3] ⟨[(3,vb r1)],[],0⟩ ?_
 obtain rfl:=Option.some.inj h
 exact rK [3] [] ⟨[(3,vb r1)],[],1⟩ ⟨by kernel_rfl,rfl⟩
theorem IndexFunc_string_fcost_touches_1_ok {n : Nat} {a0 : List ByteArray} {a1c0 : List ByteArray} {r : Int} (h : IndexFunc_string_fcost_touches_1 n a0 a1c0 = some r) : PT Tryz.prog 115 [po s_string a0,.fn 83 [] [.ref (el_string a1c0) 0]] (vi r):=by
 unfold IndexFunc_string_fcost_touches_1 at h
 refine PT_bodyA hT Tryz.func115 rfl (by kernel_rfl) fun bad w=>?_
 refine Qzd hT 1 [0,1] [] ?_
 refine WA_seq ?_
 refine Qgd hT 1 [0,1,6] [(6,po s_string a0)] ?_
 refine One' hT rfl (v_len s_string .opt a0) ?_
 refine Szd hT 1 [0,1,7,8] [(7,vi (ln a0)),(8,vi 0)] ?_
 refine WA_block ?_
 refine lK [0,1,7,8] [] (fun k s=>∃ q,q ≤ k ∧ q ≤ n ∧ ∃ (i1 : Int),IndexFunc_string_fcost_touches_1_L0 q a0 a1c0 i1 = some r ∧ s = ⟨[(0,po s_string a0),(1,.fn 83 [] [.ref (el_string a1c0) 0]),(7,vi (ln a0)),(8,vi i1)],[],1⟩) n ⟨n,Nat.le_refl _,Nat.le_refl _,0,h,rfl⟩ (by rintro s ⟨q,hq,_,i1,h,_⟩; obtain rfl:=Nat.le_zero.1 hq; rw [IndexFunc_string_fcost_touches_1_L0] at h; cases h) ?_
 clear h
 rintro k1 s ⟨q1,hk1,hn1,i1,h,rfl⟩
 rcases q1 with _ | q1
 ·rw [IndexFunc_string_fcost_touches_1_L0] at h; cases h
 rw [IndexFunc_string_fcost_touches_1_L0] at h
 refine Qzd hT 1 [0,1,7,8,9] [(9,vb (decide (i1 < (ln a0))))] ?_
 refine WA_seq ?_
 refine Ci h (fun h=>?_) fun h=>?_
 ·refine WA_skip ?_
  refine WA_seq ?_
  refine WA_block ?_
  refine Qzd hT 2 [0,1,5,7,8] [(5,vi i1)] ?_
  refine Qgd hT 3 [0,1,5,7,8,11,12,13] [(11,.fn 83 [] [.ref (el_string a1c0) 0]),(12,po s_string a0),(13,vi i1)] ?_
  obtain ⟨x2,hx2,h⟩:=bsome h
  refine One' hT rfl (v_index s_string .opt a0 .i64 i1 hx2) ?_
  refine Sgd hT 1 [0,1,5,7,8,11,15] [(15,vw x2)] ?_
  obtain ⟨r3,hr3,h⟩:=bsome h
  refine Pt' en83 (cost_touches_1_ok hr3) ?_
  refine Szd hT 0 [0,1,5,7,8,16] [(16,vb r3)] ?_
  refine Ci h (fun h=>?_) fun h=>?_
  ·refine Qz hT 2 [4] ⟨[(4,vi i1)],[],1⟩ ?_
   obtain rfl:=Option.some.inj h
   exact rK [4] [] ⟨[(4,vi i1)],[],1⟩ ⟨by kernel_rfl,rfl⟩
  refine WA_skip ?_
  refine Rgd hT 2 [0,1,7,8] [(8,vi (wr (i1 + 1)))] ?_
  exact oK [0,1,7,8] [] ⟨_,by omega,by omega,wr (i1 + 1),h,rfl⟩
 refine WA_exit ?_
 refine Qz hT 1 [4] ⟨[(4,vi (-1))],[],1⟩ ?_
 obtain rfl:=Option.some.inj h
 exact rK [4] [] ⟨[(4,vi (-1))],[],1⟩ ⟨by kernel_rfl,rfl⟩
theorem ContainsFunc_string_fcost_touches_1_ok {n : Nat} {a0 : List ByteArray} {a1c0 : List ByteArray} {r : Bool} (h : ContainsFunc_string_fcost_touches_1 n a0 a1c0 = some r) : PT Tryz.prog 81 [po s_string a0,.fn 83 [] [.ref (el_string a1c0) 0]] (vb r):=by
 unfold ContainsFunc_string_fcost_touches_1 at h
 refine PT_bodyA hT Tryz.func81 rfl (by kernel_rfl) fun bad w=>?_
 refine Qzd hT 1 [0,1] [] ?_
 refine Qg hT 2 [5,6] ⟨[(5,po s_string a0),(6,.fn 83 [] [.ref (el_string a1c0) 0])],[],0⟩ ?_
 obtain ⟨r1,hr1,h⟩:=bsome h
 refine Pt' en115 (IndexFunc_string_fcost_touches_1_ok hr1) ?_
 refine Sz hT 2 [4] ⟨[(4,vb (decide (r1 ≥ 0)))],[],0⟩ ?_
 obtain rfl:=Option.some.inj h
 exact rK [4] [] ⟨[(4,vb (decide (r1 ≥ 0)))],[],1⟩ ⟨by kernel_rfl,rfl⟩
theorem cost_touches_ok {n : Nat} {a0 : Stmt} {a1 : List ByteArray} {r : Bool} (h : cost_touches n a0 a1 = some r) : PT Tryz.prog 52 [eStmt a0,po s_string a1] (vb r):=by
 unfold cost_touches at h
 refine PT_bodyA hT Tryz.func52 rfl (by kernel_rfl) fun bad w=>?_
 refine Qz hT 3 [2,3] ⟨[(2,bx 2 0),(3,bx 3 1)],[(3,cb 1 60 1 (po s_string a1)),(2,cb 0 101 11 (eStmt a0))],2⟩ ?_
 refine Qgd hT 1 [3,5] [(5,eStmt a0)] ?_
 obtain ⟨r1,hr1,h⟩:=bsome h
 refine Pt' en82 (tree_Touches_ok hr1) ?_
 refine Sgd hT 1 [6,7] [(6,.ps .fopt (s_string.F r1)),(7,.fn 83 [] [bx 3 1])] ?_
 obtain ⟨r2,hr2,h⟩:=bsome h
 refine Ob [3] [.ps .fopt (s_string.F r1),.fn 83 [] [bx 3 1]] [.ps .fopt (s_string.F r1),.fn 83 [] [.ref (el_string a1) 0]] (vb r2) en81 (PT_args ((ContainsFunc_string_fcost_touches_1_ok hr2)) ⟨VLe.fopt_opt,VLe.refl _,trivial⟩) ?_
 refine Szd hT 1 [4] [(4,vb r2)] ?_
 obtain rfl:=Option.some.inj h
 exact rK [4] [] ⟨[(4,vb r2)],[],1⟩ ⟨by kernel_rfl,rfl⟩
theorem cost_whole_ok {n : Nat} {a0 : Int} {r : Cx} (h : cost_whole n a0 = some r) : PT Tryz.prog 53 [vi a0] (vz r):=by
 unfold cost_whole at h
 refine PT_bodyA hT Tryz.func53 rfl (by kernel_rfl) fun bad w=>?_
 refine Qz hT 1 [0] ⟨[(0,vi a0)],[],0⟩ ?_
 refine Qz hT 4 [2] ⟨[(2,vz (⟨FloatKind.f64.nearest a0,0⟩ : Cx))],[],0⟩ ?_
 obtain rfl:=Option.some.inj h
 exact rK [2] [] ⟨[(2,vz (⟨FloatKind.f64.nearest a0,0⟩ : Cx))],[],1⟩ ⟨by kernel_rfl,rfl⟩
theorem cost_Upgrade_ok {n : Nat} {a0 : Prog} {a1 : ByteArray} {r : Cx} (h : cost_Upgrade n a0 a1 = some r) : PT Tryz.prog 21 [eProg a0,vw a1] (vz r):=by
 unfold cost_Upgrade at h
 refine PT_bodyA hT Tryz.func21 rfl (by kernel_rfl) fun bad w=>?_
 refine Qz hT 2 [1,2] ⟨[(1,vw a1),(2,bx 2 0)],[(2,cb 0 27 2 (eProg a0))],1⟩ ?_
 refine Qz hT 1 [1,2,5] ⟨[(1,vw a1),(2,bx 2 0),(5,vz (⟨0,4607182418800017408⟩ : Cx))],[(2,cb 0 27 2 (eProg a0))],1⟩ ?_
 refine Qg hT 1 [1,2,5,9] ⟨[(1,vw a1),(2,bx 2 0),(5,vz (⟨0,4607182418800017408⟩ : Cx)),(9,eProg a0)],[(2,cb 0 27 2 (eProg a0))],1⟩ ?_
 obtain ⟨r1,hr1,h⟩:=bsome h
 refine Pt' en50 (cost_Weights_ok hr1) ?_
 refine Sz hT 1 [1,2,5,6] ⟨[(1,vw a1),(2,bx 2 0),(5,vz (⟨0,4607182418800017408⟩ : Cx)),(6,.ps .fopt (s_int.F r1))],[(2,cb 0 27 2 (eProg a0))],1⟩ ?_
 refine WA_seq ?_
 refine Qg hT 1 [1,5,6,11] ⟨[(1,vw a1),(5,vz (⟨0,4607182418800017408⟩ : Cx)),(6,.ps .fopt (s_int.F r1)),(11,eProg a0)],[(2,cb 0 27 2 (eProg a0))],1⟩ ?_
 obtain ⟨r2,hr2,h⟩:=bsome h
 refine Pt' en51 (tree_List_ok hr2) ?_
 refine Sg hT 0 [1,5,6,12] ⟨[(1,vw a1),(5,vz (⟨0,4607182418800017408⟩ : Cx)),(6,.ps .fopt (s_int.F r1)),(12,.ps .fopt (s_Stmt.F r2))],[(2,cb 0 27 2 (eProg a0))],1⟩ ?_
 refine One' hT rfl (v_len s_Stmt .fopt r2) ?_
 refine Sz hT 1 [1,5,6,12,13,14] ⟨[(1,vw a1),(5,vz (⟨0,4607182418800017408⟩ : Cx)),(6,.ps .fopt (s_int.F r1)),(12,.ps .fopt (s_Stmt.F r2)),(13,vi (ln r2)),(14,vi 0)],[(2,cb 0 27 2 (eProg a0))],1⟩ ?_
 refine WA_block ?_
 refine lK [1,5,6,12,13,14] [] (fun k s=>∃ q,q ≤ k ∧ q ≤ n ∧ ∃ (z3 : Cx),∃ (i4 : Int),cost_Upgrade_L0 q a0 a1 r1 r2 z3 i4 = some r ∧ s = ⟨[(1,vw a1),(5,vz z3),(6,.ps .fopt (s_int.F r1)),(12,.ps .fopt (s_Stmt.F r2)),(13,vi (ln r2)),(14,vi i4)],[],1⟩) n ⟨n,Nat.le_refl _,Nat.le_refl _,(⟨0,4607182418800017408⟩ : Cx),0,h,rfl⟩ (by rintro s ⟨q,hq,_,z3,i4,h,_⟩; obtain rfl:=Nat.le_zero.1 hq; rw [cost_Upgrade_L0] at h; cases h) ?_
 clear h
 rintro k1 s ⟨q1,hk1,hn1,z3,i4,h,rfl⟩
 rcases q1 with _ | q1
 ·rw [cost_Upgrade_L0] at h; cases h
 rw [cost_Upgrade_L0] at h
 refine Qzd hT 1 [1,5,6,12,13,14,15] [(15,vb (decide (i4 < (ln r2))))] ?_
 refine WA_seq ?_
 refine Ci h (fun h=>?_) fun h=>?_
 ·refine WA_skip ?_
  refine WA_seq ?_
  obtain ⟨J6,hJ6,h⟩:=jsome h
  refine WA_join (fun s=>∃ (z5 : Cx),J6 z5 = some r ∧ s = ⟨[(1,vw a1),(5,vz z5),(6,.ps .fopt (s_int.F r1)),(12,.ps .fopt (s_Stmt.F r2)),(13,vi (ln r2)),(14,vi i4)],[],1⟩) ?_ ?_
  ·refine WA_block ?_
   refine Qgd hT 1 [1,5,6,12,13,14,16] [(16,vi i4)] ?_
   obtain ⟨x7,hx7,h⟩:=bsome h
   refine One' hT rfl (v_index s_Stmt .fopt r2 .i64 i4 hx7) ?_
   refine Szh hT 4 [1,5,6,7,8,12,13,14] [(7,vi i4),(8,bx 8 1)] [(8,cb 1 101 11 (eStmt x7))] 2 ?_
   refine Qgh hT 3 [1,5,6,7,12,13,14,19,21] [(19,eStmt x7),(21,vs 21 2 s_string [a1])] [(21,⟨2,9,1,false,false,s_string.F [a1]⟩),(8,cb 1 101 11 (eStmt x7))] 3 ?_
   refine WO_weak (wF 21 2 ⟨2,9,1,false,false,s_string.F [a1]⟩ [(1,vw a1),(5,vz z3),(6,.ps .fopt (s_int.F r1)),(7,vi i4),(12,.ps .fopt (s_Stmt.F r2)),(13,vi (ln r2)),(14,vi i4),(19,eStmt x7),(21,po s_string [a1])] [(8,cb 1 101 11 (eStmt x7))] ⟨rfl,.keep _,rfl,.keep _,rfl,.keep _,rfl,.keep _,rfl,.keep _,rfl,.keep _,rfl,.keep _,rfl,.keep _,rfl,.hit true,trivial⟩ ⟨rfl,.inl rfl,trivial⟩) ?_
   obtain ⟨r8,hr8,h⟩:=bsome h
   refine Pt' en52 (cost_touches_ok hr8) ?_
   refine Szd hT 0 [1,5,6,7,12,13,14,22] [(22,vb r8)] ?_
   refine Ci h (fun h=>?_) fun h=>?_
   ·refine Rgd hT 3 [1,6,12,13,14,23,24,25] [(23,vz z3),(24,.ps .fopt (s_int.F r1)),(25,vi i4)] ?_
    obtain ⟨x9,hx9,h⟩:=bsome h
    refine One' hT rfl (v_index s_int .fopt r1 .i64 i4 hx9) ?_
    refine Sgd hT 1 [1,6,12,13,14,23,27] [(27,vi x9)] ?_
    obtain ⟨r10,hr10,h⟩:=bsome h
    refine Pt' en53 (cost_whole_ok hr10) ?_
    refine Sg hT 0 [1,6,12,13,14,23,28] ⟨[(1,vw a1),(6,.ps .fopt (s_int.F r1)),(12,.ps .fopt (s_Stmt.F r2)),(13,vi (ln r2)),(14,vi i4),(23,vz z3),(28,vz r10)],[(8,cb 1 101 11 (eStmt x7))],3⟩ ?_
    obtain ⟨z11,hz11,h⟩:=bsome h
    refine One' hT rfl (ev_cadd z3 r10 hz11 (by kernel_rfl) (by kernel_rfl)) ?_
    refine Sgd hT 1 [1,5,6,12,13,14] [(5,vz z11)] ?_
    exact oK [1,5,6,12,13,14] [] ⟨z11,h,rfl⟩
   exact sK [1,5,6,12,13,14] [] ⟨z3,h,rfl⟩
  subst hJ6
  rintro s ⟨z5,h,rfl⟩
  skip
  refine Rgd hT 2 [1,5,6,12,13,14] [(14,vi (wr (i4 + 1)))] ?_
  exact oK [1,5,6,12,13,14] [] ⟨_,by omega,by omega,z5,wr (i4 + 1),h,rfl⟩
 refine WA_exit ?_
 refine Qz hT 2 [4] ⟨[(4,vz z3)],[],1⟩ ?_
 obtain rfl:=Option.some.inj h
 exact rK [4] [] ⟨[(4,vz z3)],[],1⟩ ⟨by kernel_rfl,rfl⟩
theorem cands_sets_ok {n : Nat} {a0 : List Int} {r : List (List Int)} (h : cands_sets n a0 = some r) : GO Tryz.prog 22 [] [po s_int a0] (vs 100 1 s_Lint r) [(100,rb 1 s_Lint r)]:=by
 unfold cands_sets at h
 refine GO_bodyA hT Tryz.func22 rfl [] (by kernel_rfl) fun bad w m=>?_
 refine Qzd hT 1 [0] [] ?_
 refine Qzd hT 1 [0,3] [(3,vn)] ?_
 refine WA_seq ?_
 refine WA_block ?_
 refine Qgd hT 1 [0,3,11] [(11,po s_int a0)] ?_
 refine One' hT rfl (v_len s_int .opt a0) ?_
 refine Szd hT 2 [0,3,10] [(10,vb (decide ((ln a0) > 4)))] ?_
 refine Ci h (fun h=>?_) fun h=>?_
 ·refine WA_seq ?_
  refine Qgd hT 1 [0,3,14] [(14,po s_int a0)] ?_
  refine One' hT rfl (v_len s_int .opt a0) ?_
  refine Szd hT 1 [0,3,14,15,16] [(15,vi (ln a0)),(16,vi 0)] ?_
  refine WA_block ?_
  refine aW [0,3,14,15,16] ⟨[(0,po s_int a0),(3,vn),(14,po s_int a0),(15,vi (ln a0)),(16,vi 0)],[],1⟩ ?_
  refine WA_weak (wO 3 5000 23 1) ?_
  refine lK [0,3,14,15,16] [(5000,10003,1)] (fun k s=>∃ q,q ≤ k ∧ q ≤ n ∧ ∃ (l1 : List (List Int)),∃ (i2 : Int),cands_sets_L0 q a0 l1 i2 = some r ∧ s = ⟨[(0,po s_int a0),(3,vs 10003 1 s_Lint l1),(14,po s_int a0),(15,vi (ln a0)),(16,vi i2)],[(10003,rb 1 s_Lint l1)],2⟩) n ⟨n,Nat.le_refl _,Nat.le_refl _,([] : List (List Int)),0,h,rfl⟩ (by rintro s ⟨q,hq,_,l1,i2,h,_⟩; obtain rfl:=Nat.le_zero.1 hq; rw [cands_sets_L0] at h; cases h) ?_
  clear h
  rintro k1 s ⟨q1,hk1,hn1,l1,i2,h,rfl⟩
  rcases q1 with _ | q1
  ·rw [cands_sets_L0] at h; cases h
  rw [cands_sets_L0] at h
  refine Qzd hT 1 [0,3,14,15,16,17] [(17,vb (decide (i2 < (ln a0))))] ?_
  refine WA_seq ?_
  refine Ci h (fun h=>?_) fun h=>?_
  ·refine WA_skip ?_
   refine WA_seq ?_
   obtain ⟨J4,hJ4,h⟩:=jsome h
   refine WA_join (fun s=>∃ (l3 : List (List Int)),J4 l3 = some r ∧ s = ⟨[(0,po s_int a0),(3,vs 10003 1 s_Lint l3),(14,po s_int a0),(15,vi (ln a0)),(16,vi i2)],[(10003,rb 1 s_Lint l3)],2⟩) ?_ ?_
   ·refine WA_block ?_
    refine Qgd hT 0 [0,3,14,15,16] [] ?_
    obtain ⟨x5,hx5,h⟩:=bsome h
    refine One' hT rfl (v_index s_int .opt a0 .i64 i2 hx5) ?_
    refine Szd hT 2 [0,3,5,14,15,16] [(5,vi x5)] ?_
    refine Qgd hT 1 [0,3,5,14,15,16,20] [(20,po s_int a0)] ?_
    refine One' hT rfl (v_len s_int .opt a0) ?_
    refine Szd hT 1 [0,3,5,14,15,16,22] [(22,vb (decide ((ln a0) ≤ 8)))] ?_
    refine Ci h (fun h=>?_) fun h=>?_
    ·refine Rgh hT 3 [0,14,15,16,23,25] [(23,vs 10003 1 s_Lint l1),(25,vs 25 2 s_int [x5])] [(25,⟨2,3,1,false,false,s_int.F [x5]⟩),(10003,rb 1 s_Lint l1)] 3 ?_
     refine WO_weak (wF 25 2 ⟨2,3,1,false,false,s_int.F [x5]⟩ [(0,po s_int a0),(14,po s_int a0),(15,vi (ln a0)),(16,vi i2),(23,vs 10003 1 s_Lint l1),(25,po s_int [x5])] [(10003,rb 1 s_Lint l1)] ⟨rfl,.keep _,rfl,.keep _,rfl,.keep _,rfl,.keep _,rfl,.keep _,rfl,.hit true,trivial⟩ ⟨rfl,.inl rfl,trivial⟩) ?_
     refine Sgh hT 1 [0,14,15,16,23,26] [(26,vs 26 3 s_Lint [[x5]])] [(26,⟨3,23,1,false,false,s_Lint.F [[x5]]⟩),(10003,rb 1 s_Lint l1)] 4 ?_
     obtain ⟨g6,h⟩:=gsome h
     refine Oa hT s_Lint 10003 1 true l1 [[x5]] (eO s_Lint 26 3 true ⟨3,23,1,false,false,s_Lint.F [[x5]]⟩ [[x5]]) g6 ?_
     refine Sgh hT 1 [0,3,14,15,16] [(3,vs 27 4 s_Lint (l1 ++ [[x5]]))] [(27,rb 4 s_Lint (l1 ++ [[x5]])),(26,⟨3,23,1,false,false,s_Lint.F [[x5]]⟩)] 5 ?_
     exact oK [0,3,14,15,16] [(27,10003,1)] ⟨l1 ++ [[x5]],h,rfl⟩
    exact sK [0,3,14,15,16] [(10003,10003,1)] ⟨l1,h,rfl⟩
   subst hJ4
   rintro s ⟨l3,h,rfl⟩
   skip
   refine Rg hT 2 [0,3,14,15,16] ⟨[(0,po s_int a0),(3,vs 10003 1 s_Lint l3),(14,po s_int a0),(15,vi (ln a0)),(16,vi (wr (i2 + 1)))],[(10003,rb 1 s_Lint l3)],2⟩ ?_
   exact oK [0,3,14,15,16] [(10003,10003,1)] ⟨_,by omega,by omega,l3,wr (i2 + 1),h,rfl⟩
  refine WA_exit ?_
  refine Qg hT 3 [29,31] ⟨[(29,vs 10003 1 s_Lint l1),(31,vs 31 2 s_Lint [a0])],[(31,⟨2,23,1,false,false,s_Lint.F [a0]⟩),(10003,rb 1 s_Lint l1)],3⟩ ?_
  obtain ⟨g7,h⟩:=gsome h
  refine Oa hT s_Lint 10003 1 true l1 [a0] (eO s_Lint 31 2 true ⟨2,23,1,false,false,s_Lint.F [a0]⟩ [a0]) g7 ?_
  refine Sz hT 1 [2] ⟨[(2,vs 32 3 s_Lint (l1 ++ [a0]))],[(32,rb 3 s_Lint (l1 ++ [a0])),(31,⟨2,23,1,false,false,s_Lint.F [a0]⟩)],4⟩ ?_
  obtain rfl:=Option.some.inj h
  exact rK [2] [(32,100,1)] ⟨[(2,vs 100 1 s_Lint (l1 ++ [a0]))],[(100,rb 1 s_Lint (l1 ++ [a0]))],2⟩ ⟨by kernel_rfl,by kernel_rfl,rfl⟩
 refine WA_skip ?_
 refine WA_seq ?_
 refine Qzd hT 1 [0,3,6] [(6,vi 1)] ?_
 refine WA_block ?_
 refine aW [0,3,6] ⟨[(0,po s_int a0),(3,vn),(6,vi 1)],[],1⟩ ?_
 refine WA_weak (wO 3 5000 23 1) ?_
 refine lK [0,3,6] [(5000,10003,1)] (fun k s=>∃ q,q ≤ k ∧ q ≤ n ∧ ∃ (l8 : List (List Int)),∃ (i9 : Int),cands_sets_L1 q a0 l8 i9 = some r ∧ s = ⟨[(0,po s_int a0),(3,vs 10003 1 s_Lint l8),(6,vi i9)],[(10003,rb 1 s_Lint l8)],2⟩) n ⟨n,Nat.le_refl _,Nat.le_refl _,([] : List (List Int)),1,h,rfl⟩ (by rintro s ⟨q,hq,_,l8,i9,h,_⟩; obtain rfl:=Nat.le_zero.1 hq; rw [cands_sets_L1] at h; cases h) ?_
 clear h
 rintro k1 s ⟨q1,hk1,hn1,l8,i9,h,rfl⟩
 rcases q1 with _ | q1
 ·rw [cands_sets_L1] at h; cases h
 rw [cands_sets_L1] at h
 refine WA_seq ?_
 refine Qgd hT 2 [0,3,6,33,34] [(33,vi i9),(34,po s_int a0)] ?_
 refine One' hT rfl (v_len s_int .opt a0) ?_
 refine Sgd hT 0 [0,3,6,33,35] [(35,vi (ln a0))] ?_
 obtain ⟨x10,hx10,h⟩:=bsome h
 refine One' hT rfl (ev_shl .i64 .i64 1 (ln a0) hx10 (by kernel_rfl) (by kernel_rfl)) ?_
 refine Sz hT 1 [0,3,6,37] ⟨[(0,po s_int a0),(3,vs 10003 1 s_Lint l8),(6,vi i9),(37,vb (decide (i9 < x10)))],[(10003,rb 1 s_Lint l8)],2⟩ ?_
 refine Ci h (fun h=>?_) fun h=>?_
 ·refine WA_skip ?_
  refine WA_seq ?_
  refine WA_block ?_
  refine Qzd hT 1 [0,3,6,7] [(7,vn)] ?_
  refine WA_seq ?_
  refine Qgd hT 1 [0,3,6,7,40] [(40,po s_int a0)] ?_
  refine One' hT rfl (v_len s_int .opt a0) ?_
  refine Szd hT 1 [0,3,6,7,40,41,42] [(41,vi (ln a0)),(42,vi 0)] ?_
  refine WA_block ?_
  refine aW [0,3,6,7,40,41,42] ⟨[(0,po s_int a0),(3,vs 10003 1 s_Lint l8),(6,vi i9),(7,vn),(40,po s_int a0),(41,vi (ln a0)),(42,vi 0)],[(10003,rb 1 s_Lint l8)],2⟩ ?_
  refine WA_weak (wO 7 5000 3 1) ?_
  refine lK [0,3,6,7,40,41,42] [(10003,10003,1),(5000,10007,1)] (fun k s=>∃ q,q ≤ k ∧ q ≤ q1 ∧ ∃ (l11 : List Int),∃ (i12 : Int),cands_sets_L2 q a0 l8 i9 x10 l11 i12 = some r ∧ s = ⟨[(0,po s_int a0),(3,vs 10003 1 s_Lint l8),(6,vi i9),(7,vs 10007 1 s_int l11),(40,po s_int a0),(41,vi (ln a0)),(42,vi i12)],[(10003,rb 1 s_Lint l8),(10007,rb 1 s_int l11)],2⟩) q1 ⟨q1,Nat.le_refl _,Nat.le_refl _,([] : List Int),0,h,rfl⟩ (by rintro s ⟨q,hq,_,l11,i12,h,_⟩; obtain rfl:=Nat.le_zero.1 hq; rw [cands_sets_L2] at h; cases h) ?_
  clear h
  rintro k2 s ⟨q2,hk2,hn2,l11,i12,h,rfl⟩
  rcases q2 with _ | q2
  ·rw [cands_sets_L2] at h; cases h
  rw [cands_sets_L2] at h
  refine Qzd hT 1 [0,3,6,7,40,41,42,43] [(43,vb (decide (i12 < (ln a0))))] ?_
  refine WA_seq ?_
  refine Ci h (fun h=>?_) fun h=>?_
  ·refine WA_skip ?_
   refine WA_seq ?_
   obtain ⟨J14,hJ14,h⟩:=jsome h
   refine WA_join (fun s=>∃ (l13 : List Int),J14 l13 = some r ∧ s = ⟨[(0,po s_int a0),(3,vs 10003 1 s_Lint l8),(6,vi i9),(7,vs 10007 1 s_int l13),(40,po s_int a0),(41,vi (ln a0)),(42,vi i12)],[(10003,rb 1 s_Lint l8),(10007,rb 1 s_int l13)],2⟩) ?_ ?_
   ·refine WA_block ?_
    refine Qgd hT 1 [0,3,6,7,40,41,42,44] [(44,vi i12)] ?_
    obtain ⟨x15,hx15,h⟩:=bsome h
    refine One' hT rfl (v_index s_int .opt a0 .i64 i12 hx15) ?_
    refine Szd hT 3 [0,3,6,7,8,9,40,41,42] [(8,vi i12),(9,vi x15)] ?_
    refine Qgd hT 2 [0,3,6,7,9,40,41,42,47,48] [(47,vi i9),(48,vi i12)] ?_
    obtain ⟨x16,hx16,h⟩:=bsome h
    refine One' hT rfl (ev_shr .i64 .i64 i9 i12 hx16 (by kernel_rfl) (by kernel_rfl)) ?_
    refine Szd hT 2 [0,3,6,7,9,40,41,42,51] [(51,vb ((wr ((BitVec.ofInt 64 x16 &&& BitVec.ofInt 64 1).toNat : Nat)) == 1))] ?_
    refine Ci h (fun h=>?_) fun h=>?_
    ·refine Rgh hT 3 [0,3,6,40,41,42,52,54] [(52,vs 10007 1 s_int l11),(54,vs 54 2 s_int [x15])] [(54,⟨2,3,1,false,false,s_int.F [x15]⟩),(10003,rb 1 s_Lint l8),(10007,rb 1 s_int l11)] 3 ?_
     obtain ⟨g17,h⟩:=gsome h
     refine Oa hT s_int 10007 1 true l11 [x15] (eO s_int 54 2 true ⟨2,3,1,false,false,s_int.F [x15]⟩ [x15]) g17 ?_
     refine Sgh hT 1 [0,3,6,7,40,41,42] [(7,vs 55 3 s_int (l11 ++ [x15]))] [(55,rb 3 s_int (l11 ++ [x15])),(54,⟨2,3,1,false,false,s_int.F [x15]⟩),(10003,rb 1 s_Lint l8)] 4 ?_
     exact oK [0,3,6,7,40,41,42] [(10003,10003,1),(55,10007,1)] ⟨l11 ++ [x15],h,rfl⟩
    exact sK [0,3,6,7,40,41,42] [(10003,10003,1),(10007,10007,1)] ⟨l11,h,rfl⟩
   subst hJ14
   rintro s ⟨l13,h,rfl⟩
   skip
   refine Rg hT 2 [0,3,6,7,40,41,42] ⟨[(0,po s_int a0),(3,vs 10003 1 s_Lint l8),(6,vi i9),(7,vs 10007 1 s_int l13),(40,po s_int a0),(41,vi (ln a0)),(42,vi (wr (i12 + 1)))],[(10003,rb 1 s_Lint l8),(10007,rb 1 s_int l13)],2⟩ ?_
   exact oK [0,3,6,7,40,41,42] [(10003,10003,1),(10007,10007,1)] ⟨_,by omega,by omega,l13,wr (i12 + 1),h,rfl⟩
  refine WA_exit ?_
  refine Rgd hT 2 [0,6,57,58] [(57,vs 10003 1 s_Lint l8),(58,vs 10007 1 s_int l11)] ?_
  refine WO_weak (wF 10007 1 (rb 1 s_int l11) [(0,po s_int a0),(6,vi i9),(57,vs 10003 1 s_Lint l8),(58,po s_int l11)] [(10003,rb 1 s_Lint l8)] ⟨rfl,.keep _,rfl,.keep _,rfl,.keep _,rfl,.hit true,trivial⟩ ⟨rfl,.inl rfl,trivial⟩) ?_
  refine Sgh hT 1 [0,6,57,59] [(59,vs 59 2 s_Lint [l11])] [(59,⟨2,23,1,false,false,s_Lint.F [l11]⟩),(10003,rb 1 s_Lint l8)] 3 ?_
  obtain ⟨g18,h⟩:=gsome h
  refine Oa hT s_Lint 10003 1 true l8 [l11] (eO s_Lint 59 2 true ⟨2,23,1,false,false,s_Lint.F [l11]⟩ [l11]) g18 ?_
  refine Szh hT 1 [0,3,6] [(3,vs 60 3 s_Lint (l8 ++ [l11]))] [(60,rb 3 s_Lint (l8 ++ [l11])),(59,⟨2,23,1,false,false,s_Lint.F [l11]⟩)] 4 ?_
  refine Rgd hT 3 [0,3,6] [(6,vi (wr (i9 + 1)))] ?_
  exact oK [0,3,6] [(60,10003,1)] ⟨_,by omega,by omega,l8 ++ [l11],wr (i9 + 1),h,rfl⟩
 refine WA_exit ?_
 refine Qzd hT 2 [2] [(2,vs 10003 1 s_Lint l8)] ?_
 obtain rfl:=Option.some.inj h
 exact rK [2] [(10003,100,1)] ⟨[(2,vs 100 1 s_Lint l8)],[(100,rb 1 s_Lint l8)],2⟩ ⟨by kernel_rfl,by kernel_rfl,rfl⟩
theorem Clone_int_ok {n : Nat} {a0 : List Int} {r : List Int} (h : Clone_int n a0 = some r) : GO Tryz.prog 24 [] [po s_int a0] (vs 100 1 s_int r) [(100,rb 1 s_int r)]:=by
 unfold Clone_int at h
 refine GO_bodyA hT Tryz.func24 rfl [] (by kernel_rfl) fun bad w m=>?_
 refine Qzd hT 1 [0] [] ?_
 refine WA_seq ?_
 refine Qgd hT 1 [0,3] [(3,po s_int a0)] ?_
 refine WO_isnil' hT s_int rfl (by kernel_rfl) .opt a0 rfl (by kernel_rfl) (by kernel_rfl) ?_
 intro b1 hnil
 cases b1
 ·clear hnil
  refine Szh hT 0 [0,4] [(4,vb false)] [] 1 ?_
  refine WA_cond false (by kernel_rfl) (fun hb=>by cases hb) (fun _=>?_)
  refine WA_skip ?_
  refine Qg hT 2 [5,6] ⟨[(5,vs 5 1 s_int ([] : List Int)),(6,po s_int a0)],[(5,⟨1,3,1,false,false,s_int.F ([] : List Int)⟩)],2⟩ ?_
  obtain ⟨g2,h⟩:=gsome h
  refine Oa hT s_int 5 1 false ([] : List Int) a0 (by kernel_rfl) g2 ?_
  refine Sz hT 1 [2] ⟨[(2,vs 7 2 s_int (([] : List Int) ++ a0))],[(7,rb 2 s_int (([] : List Int) ++ a0))],3⟩ ?_
  obtain rfl:=Option.some.inj h
  exact rK [2] [(7,100,1)] ⟨[(2,vs 100 1 s_int (([] : List Int) ++ a0))],[(100,rb 1 s_int (([] : List Int) ++ a0))],2⟩ ⟨by kernel_rfl,by kernel_rfl,rfl⟩
 ·replace h : some ([] : List Int) = some r:=by (have e:=hnil rfl; subst e; first | exact h | (obtain ⟨_,h⟩:=gsome h; simpa using h))
  clear hnil
  refine Szh hT 0 [0,4] [(4,vb true)] [] 1 ?_
  refine WA_cond true (by kernel_rfl) (fun _=>?_) (fun hb=>by cases hb)
  refine Qz hT 1 [2] ⟨[(2,vn)],[],1⟩ ?_
  refine aW [2] ⟨[(2,vn)],[],1⟩ ?_
  refine WA_weak (wO 2 5000 3 1) ?_
  obtain rfl:=Option.some.inj h
  exact rK [2] [(5000,100,1)] ⟨[(2,vs 100 1 s_int ([] : List Int))],[(100,rb 1 s_int ([] : List Int))],2⟩ ⟨by kernel_rfl,by kernel_rfl,rfl⟩
theorem cands_named_ok {n : Nat} {a0 : Prog} {a1 : List Int} {r : List ByteArray} (h : cands_named n a0 a1 = some r) : GO Tryz.prog 26 [] [eProg a0,po s_int a1] (vs 100 1 s_string r) [(100,rb 1 s_string r)]:=by
 unfold cands_named at h
 refine GO_bodyA hT Tryz.func26 rfl [] (by kernel_rfl) fun bad w m=>?_
 refine Qzh hT 2 [1,2] [(2,bx 2 1)] [(2,cb 1 27 2 (eProg a0))] 2 ?_
 refine Qzd hT 1 [1,2,5] [(5,vn)] ?_
 refine WA_seq ?_
 refine Qgd hT 1 [2,5,8] [(8,po s_int a1)] ?_
 refine One' hT rfl (v_len s_int .opt a1) ?_
 refine Szd hT 1 [2,5,8,9,10] [(9,vi (ln a1)),(10,vi 0)] ?_
 refine WA_block ?_
 refine aW [2,5,8,9,10] ⟨[(2,bx 2 1),(5,vn),(8,po s_int a1),(9,vi (ln a1)),(10,vi 0)],[(2,cb 1 27 2 (eProg a0))],2⟩ ?_
 refine WA_weak (wO 5 5000 9 1) ?_
 refine lK [2,5,8,9,10] [(2,2,1),(5000,10005,1)] (fun k s=>∃ q,q ≤ k ∧ q ≤ n ∧ ∃ (l1 : List ByteArray),∃ (i2 : Int),cands_named_L0 q a0 a1 l1 i2 = some r ∧ s = ⟨[(2,bx 2 1),(5,vs 10005 1 s_string l1),(8,po s_int a1),(9,vi (ln a1)),(10,vi i2)],[(2,cb 1 27 2 (eProg a0)),(10005,rb 1 s_string l1)],2⟩) n ⟨n,Nat.le_refl _,Nat.le_refl _,([] : List ByteArray),0,h,rfl⟩ (by rintro s ⟨q,hq,_,l1,i2,h,_⟩; obtain rfl:=Nat.le_zero.1 hq; rw [cands_named_L0] at h; cases h) ?_
 clear h
 rintro k1 s ⟨q1,hk1,hn1,l1,i2,h,rfl⟩
 rcases q1 with _ | q1
 ·rw [cands_named_L0] at h; cases h
 rw [cands_named_L0] at h
 refine Qzd hT 1 [2,5,8,9,10,11] [(11,vb (decide (i2 < (ln a1))))] ?_
 refine WA_seq ?_
 refine Ci h (fun h=>?_) fun h=>?_
 ·refine WA_skip ?_
  refine WA_seq ?_
  refine WA_block ?_
  refine Qgd hT 0 [2,5,8,9,10] [] ?_
  obtain ⟨x3,hx3,h⟩:=bsome h
  refine One' hT rfl (v_index s_int .opt a1 .i64 i2 hx3) ?_
  refine Szd hT 2 [2,5,7,8,9,10] [(7,vi x3)] ?_
  refine Rgd hT 4 [2,8,9,10,14,16,17] [(14,vs 10005 1 s_string l1),(16,po s_Decl a0.Decls),(17,vi x3)] ?_
  obtain ⟨x4,hx4,h⟩:=bsome h
  refine One' hT rfl (v_index s_Decl .opt a0.Decls .i64 x3 hx4) ?_
  refine Sgh hT 3 [2,8,9,10,14,21] [(21,vs 21 2 s_string [x4.Name])] [(21,⟨2,9,1,false,false,s_string.F [x4.Name]⟩),(2,cb 1 27 2 (eProg a0)),(10005,rb 1 s_string l1)] 3 ?_
  obtain ⟨g5,h⟩:=gsome h
  refine Oa hT s_string 10005 1 true l1 [x4.Name] (eO s_string 21 2 true ⟨2,9,1,false,false,s_string.F [x4.Name]⟩ [x4.Name]) g5 ?_
  refine Szh hT 1 [2,5,8,9,10] [(5,vs 22 3 s_string (l1 ++ [x4.Name]))] [(22,rb 3 s_string (l1 ++ [x4.Name])),(21,⟨2,9,1,false,false,s_string.F [x4.Name]⟩),(2,cb 1 27 2 (eProg a0))] 4 ?_
  refine Rgd hT 2 [2,5,8,9,10] [(10,vi (wr (i2 + 1)))] ?_
  exact oK [2,5,8,9,10] [(2,2,1),(22,10005,1)] ⟨_,by omega,by omega,l1 ++ [x4.Name],wr (i2 + 1),h,rfl⟩
 refine WA_exit ?_
 refine Qzd hT 2 [4] [(4,vs 10005 1 s_string l1)] ?_
 obtain rfl:=Option.some.inj h
 exact rK [4] [(10005,100,1)] ⟨[(4,vs 100 1 s_string l1)],[(100,rb 1 s_string l1)],2⟩ ⟨by kernel_rfl,by kernel_rfl,rfl⟩
theorem cost_size_ok {n : Nat} {a0 : Stmt} {r : Int} (h : cost_size n a0 = some r) : PT Tryz.prog 85 [eStmt a0] (vi r):=by
 unfold cost_size at h
 refine PT_bodyA hT Tryz.func85 rfl (by kernel_rfl) fun bad w=>?_
 refine Qz hT 2 [1] ⟨[(1,bx 1 0)],[(1,cb 0 101 11 (eStmt a0))],1⟩ ?_
 refine Qgd hT 1 [3] [(3,eStmt a0)] ?_
 refine One' hT rfl (ev_bslice s_Stmt 4 [a0] (by kernel_rfl)) ?_
 refine Sg hT 0 [4] ⟨[(4,vs 4 1 s_Stmt [a0])],[(4,⟨1,101,11,false,false,s_Stmt.F [a0]⟩),(1,cb 0 101 11 (eStmt a0))],2⟩ ?_
 refine WO_weak (wF 4 1 ⟨1,101,11,false,false,s_Stmt.F [a0]⟩ [(4,po s_Stmt [a0])] [(1,cb 0 101 11 (eStmt a0))] ⟨rfl,.hit true,trivial⟩ ⟨rfl,.inl rfl,trivial⟩) ?_
 refine Sg hT 1 [5] ⟨[(5,vs 5 2 s_LStmt [[a0]])],[(5,⟨2,80,1,false,false,s_LStmt.F [[a0]]⟩),(1,cb 0 101 11 (eStmt a0))],3⟩ ?_
 refine WO_weak (wF 5 2 ⟨2,80,1,false,false,s_LStmt.F [[a0]]⟩ [(5,po s_LStmt [[a0]])] [(1,cb 0 101 11 (eStmt a0))] ⟨rfl,.hit true,trivial⟩ ⟨rfl,.inl rfl,trivial⟩) ?_
 refine Sg hT 1 [6] ⟨[(6,.agg [vn,po s_LStmt [[a0]]])],[(1,cb 0 101 11 (eStmt a0))],3⟩ ?_
 obtain ⟨r1,hr1,h⟩:=bsome h
 refine Pt' (vs:=[.agg [vn,po s_LStmt [[a0]]]]) en51 (PT_args ((tree_List_ok hr1)) ⟨VLe.agg ⟨VLe.nil_opt,VLe.refl _,trivial⟩,trivial⟩) ?_
 refine Sgd hT 0 [7] [(7,.ps .fopt (s_Stmt.F r1))] ?_
 refine One' hT rfl (v_len s_Stmt .fopt r1) ?_
 refine Szd hT 1 [2] [(2,vi (ln r1))] ?_
 obtain rfl:=Option.some.inj h
 exact rK [2] [] ⟨[(2,vi (ln r1))],[],1⟩ ⟨by kernel_rfl,rfl⟩
theorem cost_Wrapped_ok {n : Nat} {a0 : Prog} {a1 : List ByteArray} {r : List Int} (h : cost_Wrapped n a0 a1 = some r) : PT Tryz.prog 54 [eProg a0,po s_string a1] (.ps .fopt (s_int.F r)):=by
 unfold cost_Wrapped at h
 refine PT_bodyA hT Tryz.func54 rfl (by kernel_rfl) fun bad w=>?_
 refine Qzh hT 2 [1,2] [(2,bx 2 0)] [(2,cb 0 27 2 (eProg a0))] 1 ?_
 refine Qzd hT 1 [1,2,5] [(5,vn)] ?_
 refine Qgd hT 1 [1,5,8] [(8,eProg a0)] ?_
 obtain ⟨r1,hr1,h⟩:=bsome h
 refine Pt' en51 (tree_List_ok hr1) ?_
 refine Szd hT 1 [1,5,6] [(6,.ps .fopt (s_Stmt.F r1))] ?_
 refine WA_seq ?_
 refine Qzd hT 1 [1,5,6,7] [(7,vi 0)] ?_
 refine WA_block ?_
 refine aW [1,5,6,7] ⟨[(1,po s_string a1),(5,vn),(6,.ps .fopt (s_Stmt.F r1)),(7,vi 0)],[(2,cb 0 27 2 (eProg a0))],1⟩ ?_
 refine WA_weak (wO 5 5000 3 1) ?_
 refine lK [1,5,6,7] [(5000,10005,0)] (fun k s=>∃ q,q ≤ k ∧ q ≤ n ∧ ∃ (l2 : List Int),∃ (i3 : Int),cost_Wrapped_L0 q a0 a1 r1 l2 i3 = some r ∧ s = ⟨[(1,po s_string a1),(5,vs 10005 0 s_int l2),(6,.ps .fopt (s_Stmt.F r1)),(7,vi i3)],[(10005,rb 0 s_int l2)],1⟩) n ⟨n,Nat.le_refl _,Nat.le_refl _,([] : List Int),0,h,rfl⟩ (by rintro s ⟨q,hq,_,l2,i3,h,_⟩; obtain rfl:=Nat.le_zero.1 hq; rw [cost_Wrapped_L0] at h; cases h) ?_
 clear h
 rintro k1 s ⟨q1,hk1,hn1,l2,i3,h,rfl⟩
 rcases q1 with _ | q1
 ·rw [cost_Wrapped_L0] at h; cases h
 rw [cost_Wrapped_L0] at h
 refine WA_seq ?_
 refine Qgd hT 2 [1,5,6,7,10,11] [(10,vi i3),(11,.ps .fopt (s_Stmt.F r1))] ?_
 refine One' hT rfl (v_len s_Stmt .fopt r1) ?_
 refine Szd hT 1 [1,5,6,7,13] [(13,vb (decide (i3 < (ln r1))))] ?_
 refine Ci h (fun h=>?_) fun h=>?_
 ·refine WA_skip ?_
  refine WA_block ?_
  refine Qgd hT 2 [1,5,6,7,14,15] [(14,.ps .fopt (s_Stmt.F r1)),(15,vi i3)] ?_
  obtain ⟨x4,hx4,h⟩:=bsome h
  refine One' hT rfl (v_index s_Stmt .fopt r1 .i64 i3 hx4) ?_
  refine Sgd hT 2 [1,5,6,7,17,18] [(17,eStmt x4),(18,po s_string a1)] ?_
  obtain ⟨r5,hr5,h⟩:=bsome h
  refine Pt' en52 (cost_touches_ok hr5) ?_
  refine Szd hT 0 [1,5,6,7,19] [(19,vb r5)] ?_
  refine Ci h (fun h=>?_) fun h=>?_
  ·refine Qgh hT 3 [1,6,7,20,22] [(20,vs 10005 0 s_int l2),(22,vs 22 1 s_int [i3])] [(22,⟨1,3,1,false,false,s_int.F [i3]⟩),(10005,rb 0 s_int l2)] 2 ?_
   obtain ⟨g6,h⟩:=gsome h
   refine Oa hT s_int 10005 0 true l2 [i3] (eO s_int 22 1 true ⟨1,3,1,false,false,s_int.F [i3]⟩ [i3]) g6 ?_
   refine Szh hT 1 [1,5,6,7] [(5,vs 23 2 s_int (l2 ++ [i3]))] [(23,rb 2 s_int (l2 ++ [i3])),(22,⟨1,3,1,false,false,s_int.F [i3]⟩)] 3 ?_
   refine Rgd hT 3 [1,5,6,24,25,26] [(24,vi i3),(25,.ps .fopt (s_Stmt.F r1)),(26,vi i3)] ?_
   obtain ⟨x7,hx7,h⟩:=bsome h
   refine One' hT rfl (v_index s_Stmt .fopt r1 .i64 i3 hx7) ?_
   refine Sg hT 1 [1,5,6,24,28] ⟨[(1,po s_string a1),(5,vs 23 2 s_int (l2 ++ [i3])),(6,.ps .fopt (s_Stmt.F r1)),(24,vi i3),(28,eStmt x7)],[(23,rb 2 s_int (l2 ++ [i3])),(22,⟨1,3,1,false,false,s_int.F [i3]⟩)],3⟩ ?_
   obtain ⟨r8,hr8,h⟩:=bsome h
   refine Pt' en85 (cost_size_ok hr8) ?_
   refine Sgd hT 2 [1,5,6,7] [(7,vi (wr (i3 + r8)))] ?_
   exact oK [1,5,6,7] [(23,10005,0)] ⟨_,by omega,by omega,l2 ++ [i3],wr (i3 + r8),h,rfl⟩
  refine Rgd hT 3 [1,5,6,7] [(7,vi (wr (i3 + 1)))] ?_
  exact oK [1,5,6,7] [(10005,10005,0)] ⟨_,by omega,by omega,l2,wr (i3 + 1),h,rfl⟩
 refine WA_exit ?_
 refine Qgd hT 1 [33] [(33,vs 10005 0 s_int l2)] ?_
 refine WO_weak (wF 10005 0 (rb 0 s_int l2) [(33,po s_int l2)] [] ⟨rfl,.hit true,trivial⟩ trivial) ?_
 obtain ⟨r9,hr9,h⟩:=bsome h
 refine Pt' en23 (Clip_int_ok hr9) ?_
 refine Sz hT 1 [4] ⟨[(4,.ps .fopt (s_int.F r9))],[],1⟩ ?_
 obtain rfl:=Option.some.inj h
 exact rK [4] [] ⟨[(4,.ps .fopt (s_int.F r9))],[],1⟩ ⟨by kernel_rfl,rfl⟩
theorem cost_Guard_ok {n : Nat} {a0 : Prog} {a1 : List ByteArray} {r : Cx} (h : cost_Guard n a0 a1 = some r) : PT Tryz.prog 25 [eProg a0,po s_string a1] (vz r):=by
 unfold cost_Guard at h
 refine PT_bodyA hT Tryz.func25 rfl (by kernel_rfl) fun bad w=>?_
 refine Qzh hT 2 [1,2] [(2,bx 2 0)] [(2,cb 0 27 2 (eProg a0))] 1 ?_
 refine Qz hT 1 [1,2,5] ⟨[(1,po s_string a1),(2,bx 2 0),(5,vz (⟨0,4607182418800017408⟩ : Cx))],[(2,cb 0 27 2 (eProg a0))],1⟩ ?_
 refine Qg hT 1 [1,2,5,9] ⟨[(1,po s_string a1),(2,bx 2 0),(5,vz (⟨0,4607182418800017408⟩ : Cx)),(9,eProg a0)],[(2,cb 0 27 2 (eProg a0))],1⟩ ?_
 obtain ⟨r1,hr1,h⟩:=bsome h
 refine Pt' en50 (cost_Weights_ok hr1) ?_
 refine Sz hT 1 [1,2,5,6] ⟨[(1,po s_string a1),(2,bx 2 0),(5,vz (⟨0,4607182418800017408⟩ : Cx)),(6,.ps .fopt (s_int.F r1))],[(2,cb 0 27 2 (eProg a0))],1⟩ ?_
 refine WA_seq ?_
 refine Qg hT 2 [5,6,11,12] ⟨[(5,vz (⟨0,4607182418800017408⟩ : Cx)),(6,.ps .fopt (s_int.F r1)),(11,eProg a0),(12,po s_string a1)],[(2,cb 0 27 2 (eProg a0))],1⟩ ?_
 obtain ⟨r2,hr2,h⟩:=bsome h
 refine Pt' en54 (cost_Wrapped_ok hr2) ?_
 refine Sg hT 0 [5,6,13] ⟨[(5,vz (⟨0,4607182418800017408⟩ : Cx)),(6,.ps .fopt (s_int.F r1)),(13,.ps .fopt (s_int.F r2))],[(2,cb 0 27 2 (eProg a0))],1⟩ ?_
 refine One' hT rfl (v_len s_int .fopt r2) ?_
 refine Sz hT 1 [5,6,13,14,15] ⟨[(5,vz (⟨0,4607182418800017408⟩ : Cx)),(6,.ps .fopt (s_int.F r1)),(13,.ps .fopt (s_int.F r2)),(14,vi (ln r2)),(15,vi 0)],[(2,cb 0 27 2 (eProg a0))],1⟩ ?_
 refine WA_block ?_
 refine lK [5,6,13,14,15] [] (fun k s=>∃ q,q ≤ k ∧ q ≤ n ∧ ∃ (z3 : Cx),∃ (i4 : Int),cost_Guard_L0 q a0 a1 r1 r2 z3 i4 = some r ∧ s = ⟨[(5,vz z3),(6,.ps .fopt (s_int.F r1)),(13,.ps .fopt (s_int.F r2)),(14,vi (ln r2)),(15,vi i4)],[],1⟩) n ⟨n,Nat.le_refl _,Nat.le_refl _,(⟨0,4607182418800017408⟩ : Cx),0,h,rfl⟩ (by rintro s ⟨q,hq,_,z3,i4,h,_⟩; obtain rfl:=Nat.le_zero.1 hq; rw [cost_Guard_L0] at h; cases h) ?_
 clear h
 rintro k1 s ⟨q1,hk1,hn1,z3,i4,h,rfl⟩
 rcases q1 with _ | q1
 ·rw [cost_Guard_L0] at h; cases h
 rw [cost_Guard_L0] at h
 refine Qzd hT 1 [5,6,13,14,15,16] [(16,vb (decide (i4 < (ln r2))))] ?_
 refine WA_seq ?_
 refine Ci h (fun h=>?_) fun h=>?_
 ·refine WA_skip ?_
  refine WA_seq ?_
  refine WA_block ?_
  refine Qgd hT 0 [5,6,13,14,15] [] ?_
  obtain ⟨x5,hx5,h⟩:=bsome h
  refine One' hT rfl (v_index s_int .fopt r2 .i64 i4 hx5) ?_
  refine Szd hT 2 [5,6,8,13,14,15] [(8,vi x5)] ?_
  refine Rgd hT 3 [6,13,14,15,19,20,21] [(19,vz z3),(20,.ps .fopt (s_int.F r1)),(21,vi x5)] ?_
  obtain ⟨x6,hx6,h⟩:=bsome h
  refine One' hT rfl (v_index s_int .fopt r1 .i64 x5 hx6) ?_
  refine Sgd hT 1 [6,13,14,15,19,23] [(23,vi x6)] ?_
  obtain ⟨r7,hr7,h⟩:=bsome h
  refine Pt' en53 (cost_whole_ok hr7) ?_
  refine Sgd hT 0 [6,13,14,15,19,24] [(24,vz r7)] ?_
  obtain ⟨z8,hz8,h⟩:=bsome h
  refine One' hT rfl (ev_cmul (⟨4611686018427387904,0⟩ : Cx) r7 hz8 (by kernel_rfl) (by kernel_rfl)) ?_
  refine Sg hT 0 [6,13,14,15,19,25] ⟨[(6,.ps .fopt (s_int.F r1)),(13,.ps .fopt (s_int.F r2)),(14,vi (ln r2)),(15,vi i4),(19,vz z3),(25,vz z8)],[],1⟩ ?_
  obtain ⟨z9,hz9,h⟩:=bsome h
  refine One' hT rfl (ev_cadd z3 z8 hz9 (by kernel_rfl) (by kernel_rfl)) ?_
  refine Szd hT 1 [5,6,13,14,15] [(5,vz z9)] ?_
  refine Rgd hT 2 [5,6,13,14,15] [(15,vi (wr (i4 + 1)))] ?_
  exact oK [5,6,13,14,15] [] ⟨_,by omega,by omega,z9,wr (i4 + 1),h,rfl⟩
 refine WA_exit ?_
 refine Qz hT 2 [4] ⟨[(4,vz z3)],[],1⟩ ?_
 obtain rfl:=Option.some.inj h
 exact rK [4] [] ⟨[(4,vz z3)],[],1⟩ ⟨by kernel_rfl,rfl⟩
theorem Clip_Cand_ok {n : Nat} {a0 : List Cand} {r : List Cand} (h : Clip_Cand n a0 = some r) : PT Tryz.prog 27 [po s_Cand a0] (.ps .fopt (s_Cand.F r)):=by
 unfold Clip_Cand at h
 refine PT_bodyA hT Tryz.func27 rfl (by kernel_rfl) fun bad w=>?_
 refine Qzd hT 1 [0] [] ?_
 refine Qgd hT 2 [0,3,4] [(3,po s_Cand a0),(4,po s_Cand a0)] ?_
 refine One' hT rfl (v_len s_Cand .opt a0) ?_
 refine Sgd hT 1 [3,5,6] [(5,vi (ln a0)),(6,po s_Cand a0)] ?_
 refine One' hT rfl (v_len s_Cand .opt a0) ?_
 refine Sgd hT 0 [3,5,7] [(7,vi (ln a0))] ?_
 obtain ⟨l1,hl1,h⟩:=bsome h
 refine One' hT rfl (v_slice s_Cand .opt a0 0 (ln a0) (some (ln a0)) l1 .fopt hl1 (by intro y hy; cases hy; rfl)) ?_
 refine Sz hT 1 [2] ⟨[(2,.ps .fopt (s_Cand.F l1))],[],0⟩ ?_
 obtain rfl:=Option.some.inj h
 exact rK [2] [] ⟨[(2,.ps .fopt (s_Cand.F l1))],[],1⟩ ⟨by kernel_rfl,rfl⟩
theorem cands_Of_ok {n : Nat} {a0 : Prog} {a1 : List Int} {r : List Cand} (h : cands_Of n a0 a1 = some r) : PT Tryz.prog 8 [eProg a0,po s_int a1] (.ps .fopt (s_Cand.F r)):=by
 unfold cands_Of at h
 refine PT_bodyA hT Tryz.func8 rfl (by kernel_rfl) fun bad w=>?_
 refine Qz hT 2 [1,2] ⟨[(1,po s_int a1),(2,bx 2 0)],[(2,cb 0 27 2 (eProg a0))],1⟩ ?_
 refine Qzd hT 1 [1,2,5] [(5,vn)] ?_
 refine Qzh hT 3 [1,2,5,6] [(6,bx 6 1)] [(6,cb 1 53 1 (.fn 18 [] [bx 2 0])),(2,cb 0 27 2 (eProg a0))] 2 ?_
 refine WA_seq ?_
 refine Qgd hT 1 [1,2,5,6,13] [(13,po s_int a1)] ?_
 refine One' hT rfl (v_len s_int .opt a1) ?_
 refine Szd hT 1 [1,2,5,6,13,14,15] [(14,vi (ln a1)),(15,vi 0)] ?_
 refine WA_block ?_
 refine aW [1,2,5,6,13,14,15] ⟨[(1,po s_int a1),(2,bx 2 0),(5,vn),(6,bx 6 1),(13,po s_int a1),(14,vi (ln a1)),(15,vi 0)],[(6,cb 1 53 1 (.fn 18 [] [bx 2 0])),(2,cb 0 27 2 (eProg a0))],2⟩ ?_
 refine WA_weak (wO 5 5000 37 3) ?_
 refine lK [1,2,5,6,13,14,15] [(2,2,0),(6,6,0),(5000,10005,0)] (fun k s=>∃ q,q ≤ k ∧ q ≤ n ∧ ∃ (l1 : List Cand),∃ (i2 : Int),cands_Of_L0 q a0 a1 l1 i2 = some r ∧ s = ⟨[(1,po s_int a1),(2,bx 2 0),(5,vs 10005 0 s_Cand l1),(6,bx 6 0),(13,po s_int a1),(14,vi (ln a1)),(15,vi i2)],[(2,cb 0 27 2 (eProg a0)),(6,cb 0 53 1 (.fn 18 [] [bx 2 0])),(10005,rb 0 s_Cand l1)],1⟩) n ⟨n,Nat.le_refl _,Nat.le_refl _,([] : List Cand),0,h,rfl⟩ (by rintro s ⟨q,hq,_,l1,i2,h,_⟩; obtain rfl:=Nat.le_zero.1 hq; rw [cands_Of_L0] at h; cases h) ?_
 clear h
 rintro k1 s ⟨q1,hk1,hn1,l1,i2,h,rfl⟩
 rcases q1 with _ | q1
 ·rw [cands_Of_L0] at h; cases h
 rw [cands_Of_L0] at h
 refine Qz hT 1 [1,2,5,6,13,14,15,16] ⟨[(1,po s_int a1),(2,bx 2 0),(5,vs 10005 0 s_Cand l1),(6,bx 6 0),(13,po s_int a1),(14,vi (ln a1)),(15,vi i2),(16,vb (decide (i2 < (ln a1))))],[(2,cb 0 27 2 (eProg a0)),(6,cb 0 53 1 (.fn 18 [] [bx 2 0])),(10005,rb 0 s_Cand l1)],1⟩ ?_
 refine WA_seq ?_
 refine Ci h (fun h=>?_) fun h=>?_
 ·refine WA_skip ?_
  refine WA_seq ?_
  obtain ⟨J4,hJ4,h⟩:=jsome h
  refine WA_join (fun s=>∃ (l3 : List Cand),J4 l3 = some r ∧ s = ⟨[(1,po s_int a1),(2,bx 2 0),(5,vs 10005 0 s_Cand l3),(6,bx 6 0),(13,po s_int a1),(14,vi (ln a1)),(15,vi i2)],[(2,cb 0 27 2 (eProg a0)),(6,cb 0 53 1 (.fn 18 [] [bx 2 0])),(10005,rb 0 s_Cand l3)],1⟩) ?_ ?_
  ·refine WA_block ?_
   refine Qgd hT 0 [1,2,5,6,13,14,15] [] ?_
   obtain ⟨x5,hx5,h⟩:=bsome h
   refine One' hT rfl (v_index s_int .opt a1 .i64 i2 hx5) ?_
   refine Szd hT 2 [1,2,5,6,8,13,14,15] [(8,vi x5)] ?_
   refine Qgd hT 2 [1,2,5,6,8,13,14,15,19,20] [(19,po s_int a1),(20,.fn 20 [] [bx 6 0])] ?_
   obtain ⟨r6,hr6,h⟩:=bsome h
   refine Ob [6,2] [po s_int a1,.fn 20 [] [bx 6 0]] [po s_int a1,.fn 20 [] [.ref (.fn 18 [] [.ref (eProg a0) 0]) 0]] (vb r6) en19 (ContainsFunc_int_fcands_Of_2_ok hr6) ?_
   refine Szd hT 2 [1,2,5,6,8,9,13,14,15] [(9,vb (!r6))] ?_
   refine WA_seq ?_
   obtain ⟨J8,hJ8,h⟩:=jsome h
   refine WA_join (fun s=>∃ (b7 : Bool),J8 b7 = some r ∧ s = ⟨[(1,po s_int a1),(2,bx 2 0),(5,vs 10005 0 s_Cand l1),(6,bx 6 0),(8,vi x5),(13,po s_int a1),(14,vi (ln a1)),(15,vi i2),(33,vb b7)],[(2,cb 0 27 2 (eProg a0)),(6,cb 0 53 1 (.fn 18 [] [bx 2 0])),(10005,rb 0 s_Cand l1)],1⟩) ?_ ?_
   ·refine Rgd hT 2 [1,2,5,6,8,9,13,14,15,23,24] [(23,.fn 18 [] [bx 2 0]),(24,vi x5)] ?_
    obtain ⟨r9,hr9,h⟩:=bsome h
    refine Ob [2] [vi x5,bx 2 0] [vi x5,.ref (eProg a0) 0] (vb r9) en18 (cands_Of_1_ok hr9) ?_
    refine Sgd hT 1 [1,2,5,6,8,9,13,14,15,26] [(26,vb r9)] ?_
    cases hb : (r9 : Bool)
    ·replace h:=cfalse hb h
     refine Sgd hT 7 [1,2,5,6,8,13,14,15,33] [(33,vb false)] ?_
     exact oK [1,2,5,6,8,13,14,15,33] [(2,2,0),(6,6,0),(10005,10005,0)] ⟨false,h,rfl⟩
    replace h:=ctrue hb h
    refine Sgd hT 1 [1,2,5,6,8,9,13,14,15,26,27] [(27,po s_int a1)] ?_
    refine One' hT rfl (v_len s_int .opt a1) ?_
    refine Sgd hT 2 [1,2,5,6,8,9,13,14,15,26,30] [(30,vb (decide ((ln a1) ≤ 8)))] ?_
    cases hb : (decide ((ln a1) ≤ 8) : Bool)
    ·replace h:=cfalse hb h
     refine Sgd hT 3 [1,2,5,6,8,13,14,15,33] [(33,vb (!r6))] ?_
     exact oK [1,2,5,6,8,13,14,15,33] [(2,2,0),(6,6,0),(10005,10005,0)] ⟨!r6,h,rfl⟩
    replace h:=ctrue hb h
    refine Sg hT 3 [1,2,5,6,8,13,14,15,33] ⟨[(1,po s_int a1),(2,bx 2 0),(5,vs 10005 0 s_Cand l1),(6,bx 6 0),(8,vi x5),(13,po s_int a1),(14,vi (ln a1)),(15,vi i2),(33,vb true)],[(2,cb 0 27 2 (eProg a0)),(6,cb 0 53 1 (.fn 18 [] [bx 2 0])),(10005,rb 0 s_Cand l1)],1⟩ ?_
    exact oK [1,2,5,6,8,13,14,15,33] [(2,2,0),(6,6,0),(10005,10005,0)] ⟨true,h,rfl⟩
   subst hJ8
   rintro s ⟨b7,h,rfl⟩
   skip
   refine Ci h (fun h=>?_) fun h=>?_
   ·refine WA_drawW hT hM (by kernel_rfl) ?_
    refine Ds 7 [(40,vi x5),(39,po s_Decl a0.Decls),(38,bx 2 0),(37,eProg a0),(36,.ps .full (s_int.F [x5])),(35,vi x5),(34,vs 10005 0 s_Cand l1)] [] [(3,[2]),(4,[2]),(5,[2])] ?_
    obtain ⟨x10,hx10,h⟩:=bsome h
    refine Dl rfl (v_index s_Decl .opt a0.Decls .i64 x5 hx10) ?_
    refine Dt (.ref (eDecl x10) 0) ?_
    refine Ds 2 [(43,vw x10.Name),(42,.ref (eDecl x10) 1)] [] [] ?_
    obtain ⟨r11,hr11,h⟩:=bsome h
    refine Dp [eProg a0,vw x10.Name] (vz r11) en21 (cost_Upgrade_ok hr11) ?_
    refine Ds 2 [(46,.ps .full (s_Cand.F [(Cand.mk false [x5] r11)])),(45,.agg [vb false,.ps .full (s_int.F [x5]),vz r11])] [] [] ?_
    obtain ⟨g12,h⟩:=gsome h
    refine Dw rfl (ev_append s_Cand 10005 0 true l1 [(Cand.mk false [x5] r11)] (by kernel_rfl) (by kernel_rfl) (by kernel_rfl) (by simp) g12) ?_
    refine Dh 1 [(5,vs 47 1 s_Cand (l1 ++ [(Cand.mk false [x5] r11)]))] [(47,⟨1,37,3,false,false,s_Cand.F (l1 ++ [(Cand.mk false [x5] r11)])⟩),(2,cb 0 27 2 (eProg a0)),(6,cb 0 53 1 (.fn 18 [] [bx 2 0]))] 2 [] [] ?_
    refine De ?_
    refine kW [1,2,5,6,13,14,15] ⟨[(1,po s_int a1),(2,bx 2 0),(5,vs 47 1 s_Cand (l1 ++ [(Cand.mk false [x5] r11)])),(6,bx 6 0),(13,po s_int a1),(14,vi (ln a1)),(15,vi i2)],[(47,⟨1,37,3,false,false,s_Cand.F (l1 ++ [(Cand.mk false [x5] r11)])⟩),(2,cb 0 27 2 (eProg a0)),(6,cb 0 53 1 (.fn 18 [] [bx 2 0]))],2⟩ ?_
    refine Wk_step (wL [(1,po s_int a1),(2,bx 2 0),(5,vs 47 1 s_Cand (l1 ++ [(Cand.mk false [x5] r11)])),(6,bx 6 0),(13,po s_int a1),(14,vi (ln a1)),(15,vi i2)] [(47,rb 1 s_Cand (l1 ++ [(Cand.mk false [x5] r11)])),(2,cb 0 27 2 (eProg a0)),(6,cb 0 53 1 (.fn 18 [] [bx 2 0]))] ⟨VLf.refl _,VLf.refl _,VLf.refl _,VLf.refl _,VLf.refl _,VLf.refl _,VLf.refl _,trivial⟩ ⟨rfl,.inr (.inr rfl),rfl,.inl rfl,rfl,.inl rfl,trivial⟩) ?_
    exact wR [(2,2,0),(6,6,0),(47,10005,0)] ⟨l1 ++ [(Cand.mk false [x5] r11)],h,rfl⟩
   exact sK [1,2,5,6,13,14,15] [(2,2,0),(6,6,0),(10005,10005,0)] ⟨l1,h,rfl⟩
  subst hJ4
  rintro s ⟨l3,h,rfl⟩
  skip
  refine Rgd hT 2 [1,2,5,6,13,14,15] [(15,vi (wr (i2 + 1)))] ?_
  exact oK [1,2,5,6,13,14,15] [(2,2,0),(6,6,0),(10005,10005,0)] ⟨_,by omega,by omega,l3,wr (i2 + 1),h,rfl⟩
 refine WA_exit ?_
 refine WA_seq ?_
 refine Qgd hT 1 [2,5,49] [(49,po s_int a1)] ?_
 obtain ⟨r13,hr13,h⟩:=bsome h
 refine Og [] [(100,rb 1 s_Lint r13)] [po s_int a1] [po s_int a1] [] [(100,50,1)] [(50,rb 1 s_Lint r13)] (vs 100 1 s_Lint r13) (vs 50 1 s_Lint r13) 2 en22 (cands_sets_ok hr13) ?_
 refine Sgh hT 0 [2,5,50] [(50,vs 50 1 s_Lint r13)] [(50,rb 1 s_Lint r13),(2,cb 0 27 2 (eProg a0)),(6,cb 0 53 1 (.fn 18 [] [bx 2 0])),(10005,rb 0 s_Cand l1)] 2 ?_
 refine One' hT rfl (v_len_own s_Lint 50 1 true (rb 1 s_Lint r13) r13) ?_
 refine Szd hT 1 [2,5,50,51,52] [(51,vi (ln r13)),(52,vi 0)] ?_
 refine WA_block ?_
 refine lK [2,5,50,51,52] [(2,2,0),(50,50,0),(10005,10005,0)] (fun k s=>∃ q,q ≤ k ∧ q ≤ q1 ∧ ∃ (l14 : List Cand),∃ (i15 : Int),cands_Of_L1 q a0 a1 l1 i2 r13 l14 i15 = some r ∧ s = ⟨[(2,bx 2 0),(5,vs 10005 0 s_Cand l14),(50,vs 50 0 s_Lint r13),(51,vi (ln r13)),(52,vi i15)],[(2,cb 0 27 2 (eProg a0)),(50,rb 0 s_Lint r13),(10005,rb 0 s_Cand l14)],1⟩) q1 ⟨q1,Nat.le_refl _,Nat.le_refl _,l1,0,h,rfl⟩ (by rintro s ⟨q,hq,_,l14,i15,h,_⟩; obtain rfl:=Nat.le_zero.1 hq; rw [cands_Of_L1] at h; cases h) ?_
 clear h
 rintro k2 s ⟨q2,hk2,hn2,l14,i15,h,rfl⟩
 rcases q2 with _ | q2
 ·rw [cands_Of_L1] at h; cases h
 rw [cands_Of_L1] at h
 refine Qzd hT 1 [2,5,50,51,52,53] [(53,vb (decide (i15 < (ln r13))))] ?_
 refine WA_seq ?_
 refine Ci h (fun h=>?_) fun h=>?_
 ·refine WA_skip ?_
  refine WA_seq ?_
  refine WA_block ?_
  refine Qgd hT 0 [2,5,50,51,52] [] ?_
  obtain ⟨x16,hx16,h⟩:=bsome h
  refine One' hT rfl (v_index_own s_Lint 50 0 true (rb 0 s_Lint r13) r13 .i64 i15 hx16) ?_
  refine Sgd hT 0 [2,5,50,51,52,54] [(54,.box 50 0 i15.toNat 0)] ?_
  refine One' hT rfl (v_load_row s_Lint 50 0 (rb 0 s_Lint r13) r13 i15.toNat 0 x16 (po s_int x16) (idx_some hx16).2) ?_
  refine Sz hT 1 [2,5,11,50,51,52] ⟨[(2,bx 2 0),(5,vs 10005 0 s_Cand l14),(11,po s_int x16),(50,vs 50 0 s_Lint r13),(51,vi (ln r13)),(52,vi i15)],[(2,cb 0 27 2 (eProg a0)),(50,rb 0 s_Lint r13),(10005,rb 0 s_Cand l14)],1⟩ ?_
  refine WA_drawW hT hM (by kernel_rfl) ?_
  refine Ds 2 [(57,po s_int x16),(56,vs 10005 0 s_Cand l14)] [] [] ?_
  obtain ⟨r17,hr17,h⟩:=bsome h
  refine Dp [po s_int x16] (po s_int r17) en24 (PT_of_GO (Clone_int_ok hr17)) ?_
  obtain ⟨r18,hr18,h⟩:=bsome h
  refine Dp [po s_int r17] (.ps .fopt (s_int.F r18)) en23 (Clip_int_ok hr18) ?_
  refine Ds 3 [(62,po s_int x16),(61,eProg a0),(60,eProg a0)] [] [(4,[2]),(5,[2])] ?_
  obtain ⟨r19,hr19,h⟩:=bsome h
  refine Dp [eProg a0,po s_int x16] (po s_string r19) en26 (PT_of_GO (cands_named_ok hr19)) ?_
  obtain ⟨r20,hr20,h⟩:=bsome h
  refine Dp [eProg a0,po s_string r19] (vz r20) en25 (cost_Guard_ok hr20) ?_
  refine Ds 2 [(66,.ps .full (s_Cand.F [(Cand.mk true r18 r20)])),(65,.agg [vb true,.ps .fopt (s_int.F r18),vz r20])] [] [] ?_
  obtain ⟨g21,h⟩:=gsome h
  refine Dw rfl (ev_append s_Cand 10005 0 true l14 [(Cand.mk true r18 r20)] (by kernel_rfl) (by kernel_rfl) (by kernel_rfl) (by simp) g21) ?_
  refine Dh 1 [(5,vs 67 1 s_Cand (l14 ++ [(Cand.mk true r18 r20)]))] [(67,⟨1,37,3,false,false,s_Cand.F (l14 ++ [(Cand.mk true r18 r20)])⟩),(2,cb 0 27 2 (eProg a0)),(50,rb 0 s_Lint r13)] 2 [] [] ?_
  refine De ?_
  refine Wk_done ?_
  refine Rgd hT 2 [2,5,50,51,52] [(52,vi (wr (i15 + 1)))] ?_
  refine oW [2,5,50,51,52] ⟨[(2,bx 2 0),(5,vs 67 1 s_Cand (l14 ++ [(Cand.mk true r18 r20)])),(50,vs 50 0 s_Lint r13),(51,vi (ln r13)),(52,vi (wr (i15 + 1)))],[(67,⟨1,37,3,false,false,s_Cand.F (l14 ++ [(Cand.mk true r18 r20)])⟩),(2,cb 0 27 2 (eProg a0)),(50,rb 0 s_Lint r13)],2⟩ ?_
  refine WO_weak (wL [(2,bx 2 0),(5,vs 67 1 s_Cand (l14 ++ [(Cand.mk true r18 r20)])),(50,vs 50 0 s_Lint r13),(51,vi (ln r13)),(52,vi (wr (i15 + 1)))] [(67,rb 1 s_Cand (l14 ++ [(Cand.mk true r18 r20)])),(2,cb 0 27 2 (eProg a0)),(50,rb 0 s_Lint r13)] ⟨VLf.refl _,VLf.refl _,VLf.refl _,VLf.refl _,VLf.refl _,trivial⟩ ⟨rfl,.inr (.inr rfl),rfl,.inl rfl,rfl,.inl rfl,trivial⟩) ?_
  exact oR [(2,2,0),(50,50,0),(67,10005,0)] ⟨_,by omega,by omega,l14 ++ [(Cand.mk true r18 r20)],wr (i15 + 1),h,rfl⟩
 refine WA_exit ?_
 refine Qgd hT 1 [69] [(69,vs 10005 0 s_Cand l14)] ?_
 refine WO_weak (wF 10005 0 (rb 0 s_Cand l14) [(69,po s_Cand l14)] [(2,cb 0 27 2 (eProg a0)),(50,rb 0 s_Lint r13)] ⟨rfl,.hit true,trivial⟩ ⟨rfl,.inl rfl,rfl,.inl rfl,trivial⟩) ?_
 obtain ⟨r22,hr22,h⟩:=bsome h
 refine Pt' en27 (Clip_Cand_ok hr22) ?_
 refine Szd hT 1 [4] [(4,.ps .fopt (s_Cand.F r22))] ?_
 obtain rfl:=Option.some.inj h
 exact rK [4] [] ⟨[(4,.ps .fopt (s_Cand.F r22))],[],1⟩ ⟨by kernel_rfl,rfl⟩
def ref1_block_spec (n : Nat) : Prop:=(∀ {a0 : List Stmt} {r : List Stmt},ref1_block n a0 = some r → GO Tryz.prog 86 [] [po s_Stmt a0] (vs 100 1 s_Stmt r) [(100,rb 1 s_Stmt r)])
theorem ref1_block_step (n : Nat) (ih : ∀ m,m < n → ref1_block_spec m) : ∀ {a0 : List Stmt} {r : List Stmt},ref1_block n a0 = some r → GO Tryz.prog 86 [] [po s_Stmt a0] (vs 100 1 s_Stmt r) [(100,rb 1 s_Stmt r)]:=by
 intro a0 r h
 rcases n with _ | n
 ·rw [ref1_block] at h; cases h
 rw [ref1_block] at h
 refine GO_bodyA hT Tryz.func86 rfl [] (by kernel_rfl) fun bad w m=>?_
 refine Qzd hT 1 [0] [] ?_
 refine Qzd hT 1 [0,3] [(3,vn)] ?_
 refine WA_seq ?_
 refine Qzd hT 1 [0,3,4] [(4,vi 0)] ?_
 refine WA_block ?_
 refine aW [0,3,4] ⟨[(0,po s_Stmt a0),(3,vn),(4,vi 0)],[],1⟩ ?_
 refine WA_weak (wO 3 5000 101 11) ?_
 refine lK [0,3,4] [(5000,10003,1)] (fun k s=>∃ q,q ≤ k ∧ q ≤ n ∧ ∃ (l1 : List Stmt),∃ (i2 : Int),ref1_block_L0 q a0 l1 i2 = some r ∧ s = ⟨[(0,po s_Stmt a0),(3,vs 10003 1 s_Stmt l1),(4,vi i2)],[(10003,rb 1 s_Stmt l1)],2⟩) n ⟨n,Nat.le_refl _,Nat.le_refl _,([] : List Stmt),0,h,rfl⟩ (by rintro s ⟨q,hq,_,l1,i2,h,_⟩; obtain rfl:=Nat.le_zero.1 hq; rw [ref1_block_L0] at h; cases h) ?_
 clear h
 rintro k1 s ⟨q1,hk1,hn1,l1,i2,h,rfl⟩
 rcases q1 with _ | q1
 ·rw [ref1_block_L0] at h; cases h
 rw [ref1_block_L0] at h
 refine WA_seq ?_
 refine Qgd hT 2 [0,3,4,5,6] [(5,vi i2),(6,po s_Stmt a0)] ?_
 refine One' hT rfl (v_len s_Stmt .opt a0) ?_
 refine Szd hT 1 [0,3,4,8] [(8,vb (decide (i2 < (ln a0))))] ?_
 refine Ci h (fun h=>?_) fun h=>?_
 ·refine WA_skip ?_
  refine WA_seq ?_
  refine WA_block ?_
  refine Qg hT 3 [0,4,11,12,13] ⟨[(0,po s_Stmt a0),(4,vi i2),(11,vs 10003 1 s_Stmt l1),(12,po s_Stmt a0),(13,vi i2)],[(10003,rb 1 s_Stmt l1)],2⟩ ?_
  obtain ⟨x3,hx3,h⟩:=bsome h
  refine One' hT rfl (v_index s_Stmt .opt a0 .i64 i2 hx3) ?_
  refine Sgd hT 1 [0,4,11,15] [(15,eStmt x3)] ?_
  refine One' hT rfl (ev_bslice s_Stmt 16 [x3] (by kernel_rfl)) ?_
  refine Sgh hT 0 [0,4,11,16] [(16,vs 16 2 s_Stmt [x3])] [(16,⟨2,101,11,false,false,s_Stmt.F [x3]⟩),(10003,rb 1 s_Stmt l1)] 3 ?_
  obtain ⟨g4,h⟩:=gsome h
  refine Oa hT s_Stmt 10003 1 true l1 [x3] (eO s_Stmt 16 2 true ⟨2,101,11,false,false,s_Stmt.F [x3]⟩ [x3]) g4 ?_
  refine Szh hT 1 [0,3,4] [(3,vs 17 3 s_Stmt (l1 ++ [x3]))] [(17,rb 3 s_Stmt (l1 ++ [x3])),(16,⟨2,101,11,false,false,s_Stmt.F [x3]⟩)] 4 ?_
  refine Qgd hT 3 [0,4,18,19,20] [(18,vs 17 3 s_Stmt (l1 ++ [x3])),(19,po s_Stmt a0),(20,vi i2)] ?_
  obtain ⟨x5,hx5,h⟩:=bsome h
  refine One' hT rfl (v_index s_Stmt .opt a0 .i64 i2 hx5) ?_
  refine Sgd hT 2 [0,4,18,23] [(23,po s_Stmt x5.Body)] ?_
  obtain ⟨r6,hr6,h⟩:=bsome h
  refine Og [] [(100,rb 1 s_Stmt r6)] [po s_Stmt x5.Body] [po s_Stmt x5.Body] [] [(100,24,4)] [(24,rb 4 s_Stmt r6)] (vs 100 1 s_Stmt r6) (vs 24 4 s_Stmt r6) 5 en86 ((ih _ (by omega)) hr6) ?_
  refine Sgh hT 0 [0,4,18,24] [(24,vs 24 4 s_Stmt r6)] [(24,rb 4 s_Stmt r6),(17,rb 3 s_Stmt (l1 ++ [x3])),(16,⟨2,101,11,false,false,s_Stmt.F [x3]⟩)] 5 ?_
  obtain ⟨g7,h⟩:=gsome h
  refine Oa hT s_Stmt 17 3 true (l1 ++ [x3]) r6 (eO s_Stmt 24 4 true (rb 4 s_Stmt r6) r6) g7 ?_
  refine Szh hT 1 [0,3,4] [(3,vs 25 5 s_Stmt ((l1 ++ [x3]) ++ r6))] [(25,rb 5 s_Stmt ((l1 ++ [x3]) ++ r6)),(24,rb 4 s_Stmt r6),(16,⟨2,101,11,false,false,s_Stmt.F [x3]⟩)] 6 ?_
  refine Rgd hT 3 [0,4,26,27,28] [(26,vs 25 5 s_Stmt ((l1 ++ [x3]) ++ r6)),(27,po s_Stmt a0),(28,vi i2)] ?_
  obtain ⟨x8,hx8,h⟩:=bsome h
  refine One' hT rfl (v_index s_Stmt .opt a0 .i64 i2 hx8) ?_
  refine Sg hT 2 [0,4,26,31] ⟨[(0,po s_Stmt a0),(4,vi i2),(26,vs 25 5 s_Stmt ((l1 ++ [x3]) ++ r6)),(31,po s_Stmt x8.Else)],[(25,rb 5 s_Stmt ((l1 ++ [x3]) ++ r6)),(24,rb 4 s_Stmt r6),(16,⟨2,101,11,false,false,s_Stmt.F [x3]⟩)],6⟩ ?_
  obtain ⟨r9,hr9,h⟩:=bsome h
  refine Og [] [(100,rb 1 s_Stmt r9)] [po s_Stmt x8.Else] [po s_Stmt x8.Else] [] [(100,32,6)] [(32,rb 6 s_Stmt r9)] (vs 100 1 s_Stmt r9) (vs 32 6 s_Stmt r9) 7 en86 ((ih _ (by omega)) hr9) ?_
  refine Sgh hT 0 [0,4,26,32] [(32,vs 32 6 s_Stmt r9)] [(32,rb 6 s_Stmt r9),(25,rb 5 s_Stmt ((l1 ++ [x3]) ++ r6)),(24,rb 4 s_Stmt r6),(16,⟨2,101,11,false,false,s_Stmt.F [x3]⟩)] 7 ?_
  obtain ⟨g10,h⟩:=gsome h
  refine Oa hT s_Stmt 25 5 true ((l1 ++ [x3]) ++ r6) r9 (eO s_Stmt 32 6 true (rb 6 s_Stmt r9) r9) g10 ?_
  refine Szh hT 1 [0,3,4] [(3,vs 33 7 s_Stmt (((l1 ++ [x3]) ++ r6) ++ r9))] [(33,rb 7 s_Stmt (((l1 ++ [x3]) ++ r6) ++ r9)),(32,rb 6 s_Stmt r9),(24,rb 4 s_Stmt r6),(16,⟨2,101,11,false,false,s_Stmt.F [x3]⟩)] 8 ?_
  refine Rgd hT 3 [0,3,4] [(4,vi (wr (i2 + 1)))] ?_
  exact oK [0,3,4] [(33,10003,1)] ⟨_,by omega,by omega,((l1 ++ [x3]) ++ r6) ++ r9,wr (i2 + 1),h,rfl⟩
 refine WA_exit ?_
 refine Qzd hT 2 [2] [(2,vs 10003 1 s_Stmt l1)] ?_
 obtain rfl:=Option.some.inj h
 exact rK [2] [(10003,100,1)] ⟨[(2,vs 100 1 s_Stmt l1)],[(100,rb 1 s_Stmt l1)],2⟩ ⟨by kernel_rfl,by kernel_rfl,rfl⟩
theorem ref1_block_all (n : Nat) : ref1_block_spec n:=by
 induction n using Nat.strongRecOn with
 | _ n ih=>exact ref1_block_step n ih
theorem ref1_block_ok {n : Nat} {a0 : List Stmt} {r : List Stmt} (h : ref1_block n a0 = some r) : GO Tryz.prog 86 [] [po s_Stmt a0] (vs 100 1 s_Stmt r) [(100,rb 1 s_Stmt r)]:=(ref1_block_all n) h
theorem ref1_List_ok {n : Nat} {a0 : Prog} {r : List Stmt} (h : ref1_List n a0 = some r) : GO Tryz.prog 55 [] [eProg a0] (vs 100 1 s_Stmt r) [(100,rb 1 s_Stmt r)]:=by
 unfold ref1_List at h
 refine GO_bodyA hT Tryz.func55 rfl [] (by kernel_rfl) fun bad w m=>?_
 refine Qz hT 2 [1] ⟨[(1,bx 1 1)],[(1,cb 1 27 2 (eProg a0))],2⟩ ?_
 refine Qzd hT 1 [1,3] [(3,vn)] ?_
 refine WA_seq ?_
 refine Qzd hT 1 [1,3,4] [(4,vi 0)] ?_
 refine WA_block ?_
 refine aW [1,3,4] ⟨[(1,bx 1 1),(3,vn),(4,vi 0)],[(1,cb 1 27 2 (eProg a0))],2⟩ ?_
 refine WA_weak (wO 3 5000 101 11) ?_
 refine lK [1,3,4] [(1,1,1),(5000,10003,1)] (fun k s=>∃ q,q ≤ k ∧ q ≤ n ∧ ∃ (l1 : List Stmt),∃ (i2 : Int),ref1_List_L0 q a0 l1 i2 = some r ∧ s = ⟨[(1,bx 1 1),(3,vs 10003 1 s_Stmt l1),(4,vi i2)],[(1,cb 1 27 2 (eProg a0)),(10003,rb 1 s_Stmt l1)],2⟩) n ⟨n,Nat.le_refl _,Nat.le_refl _,([] : List Stmt),0,h,rfl⟩ (by rintro s ⟨q,hq,_,l1,i2,h,_⟩; obtain rfl:=Nat.le_zero.1 hq; rw [ref1_List_L0] at h; cases h) ?_
 clear h
 rintro k1 s ⟨q1,hk1,hn1,l1,i2,h,rfl⟩
 rcases q1 with _ | q1
 ·rw [ref1_List_L0] at h; cases h
 rw [ref1_List_L0] at h
 refine WA_seq ?_
 refine Qgd hT 3 [1,3,4,5,7] [(5,vi i2),(7,po s_LStmt a0.Threads)] ?_
 refine One' hT rfl (v_len s_LStmt .opt a0.Threads) ?_
 refine Sz hT 1 [1,3,4,9] ⟨[(1,bx 1 1),(3,vs 10003 1 s_Stmt l1),(4,vi i2),(9,vb (decide (i2 < (ln a0.Threads))))],[(1,cb 1 27 2 (eProg a0)),(10003,rb 1 s_Stmt l1)],2⟩ ?_
 refine Ci h (fun h=>?_) fun h=>?_
 ·refine WA_skip ?_
  refine WA_seq ?_
  refine WA_block ?_
  refine Rgd hT 4 [1,4,12,14,15] [(12,vs 10003 1 s_Stmt l1),(14,po s_LStmt a0.Threads),(15,vi i2)] ?_
  obtain ⟨x3,hx3,h⟩:=bsome h
  refine One' hT rfl (v_index s_LStmt .opt a0.Threads .i64 i2 hx3) ?_
  refine Sgd hT 1 [1,4,12,17] [(17,po s_Stmt x3)] ?_
  obtain ⟨r4,hr4,h⟩:=bsome h
  refine Og [] [(100,rb 1 s_Stmt r4)] [po s_Stmt x3] [po s_Stmt x3] [] [(100,18,2)] [(18,rb 2 s_Stmt r4)] (vs 100 1 s_Stmt r4) (vs 18 2 s_Stmt r4) 3 en86 (ref1_block_ok hr4) ?_
  refine Sgh hT 0 [1,4,12,18] [(18,vs 18 2 s_Stmt r4)] [(18,rb 2 s_Stmt r4),(1,cb 1 27 2 (eProg a0)),(10003,rb 1 s_Stmt l1)] 3 ?_
  obtain ⟨g5,h⟩:=gsome h
  refine Oa hT s_Stmt 10003 1 true l1 r4 (eO s_Stmt 18 2 true (rb 2 s_Stmt r4) r4) g5 ?_
  refine Szh hT 1 [1,3,4] [(3,vs 19 3 s_Stmt (l1 ++ r4))] [(19,rb 3 s_Stmt (l1 ++ r4)),(18,rb 2 s_Stmt r4),(1,cb 1 27 2 (eProg a0))] 4 ?_
  refine Rgd hT 3 [1,3,4] [(4,vi (wr (i2 + 1)))] ?_
  exact oK [1,3,4] [(1,1,1),(19,10003,1)] ⟨_,by omega,by omega,l1 ++ r4,wr (i2 + 1),h,rfl⟩
 refine WA_exit ?_
 refine Qzd hT 2 [2] [(2,vs 10003 1 s_Stmt l1)] ?_
 obtain rfl:=Option.some.inj h
 exact rK [2] [(10003,100,1)] ⟨[(2,vs 100 1 s_Stmt l1)],[(100,rb 1 s_Stmt l1)],2⟩ ⟨by kernel_rfl,by kernel_rfl,rfl⟩
def ref22_weigh_spec (n : Nat) : Prop:=(∀ {a0 : List Stmt} {a1 : Int} {r : List Int},ref22_weigh n a0 a1 = some r → GO Tryz.prog 87 [] [po s_Stmt a0,vi a1] (vs 100 1 s_int r) [(100,rb 1 s_int r)])
theorem ref22_weigh_step (n : Nat) (ih : ∀ m,m < n → ref22_weigh_spec m) : ∀ {a0 : List Stmt} {a1 : Int} {r : List Int},ref22_weigh n a0 a1 = some r → GO Tryz.prog 87 [] [po s_Stmt a0,vi a1] (vs 100 1 s_int r) [(100,rb 1 s_int r)]:=by
 intro a0 a1 r h
 rcases n with _ | n
 ·rw [ref22_weigh] at h; cases h
 rw [ref22_weigh] at h
 refine GO_bodyA hT Tryz.func87 rfl [] (by kernel_rfl) fun bad w m=>?_
 refine Qzd hT 1 [0,1] [] ?_
 refine Qzd hT 1 [0,1,5] [(5,vn)] ?_
 refine WA_seq ?_
 refine Qzd hT 1 [0,1,5,6] [(6,vi 0)] ?_
 refine WA_block ?_
 refine aW [0,1,5,6] ⟨[(0,po s_Stmt a0),(1,vi a1),(5,vn),(6,vi 0)],[],1⟩ ?_
 refine WA_weak (wO 5 5000 3 1) ?_
 refine lK [0,1,5,6] [(5000,10005,1)] (fun k s=>∃ q,q ≤ k ∧ q ≤ n ∧ ∃ (l1 : List Int),∃ (i2 : Int),ref22_weigh_L0 q a0 a1 l1 i2 = some r ∧ s = ⟨[(0,po s_Stmt a0),(1,vi a1),(5,vs 10005 1 s_int l1),(6,vi i2)],[(10005,rb 1 s_int l1)],2⟩) n ⟨n,Nat.le_refl _,Nat.le_refl _,([] : List Int),0,h,rfl⟩ (by rintro s ⟨q,hq,_,l1,i2,h,_⟩; obtain rfl:=Nat.le_zero.1 hq; rw [ref22_weigh_L0] at h; cases h) ?_
 clear h
 rintro k1 s ⟨q1,hk1,hn1,l1,i2,h,rfl⟩
 rcases q1 with _ | q1
 ·rw [ref22_weigh_L0] at h; cases h
 rw [ref22_weigh_L0] at h
 refine WA_seq ?_
 refine Qgd hT 2 [0,1,5,6,8,9] [(8,vi i2),(9,po s_Stmt a0)] ?_
 refine One' hT rfl (v_len s_Stmt .opt a0) ?_
 refine Sz hT 1 [0,1,5,6,11] ⟨[(0,po s_Stmt a0),(1,vi a1),(5,vs 10005 1 s_int l1),(6,vi i2),(11,vb (decide (i2 < (ln a0))))],[(10005,rb 1 s_int l1)],2⟩ ?_
 refine Ci h (fun h=>?_) fun h=>?_
 ·refine WA_skip ?_
  refine WA_seq ?_
  refine WA_block ?_
  refine Qgh hT 3 [0,1,6,14,16] [(14,vs 10005 1 s_int l1),(16,vs 16 2 s_int [a1])] [(16,⟨2,3,1,false,false,s_int.F [a1]⟩),(10005,rb 1 s_int l1)] 3 ?_
  obtain ⟨g3,h⟩:=gsome h
  refine Oa hT s_int 10005 1 true l1 [a1] (eO s_int 16 2 true ⟨2,3,1,false,false,s_int.F [a1]⟩ [a1]) g3 ?_
  refine Szh hT 1 [0,1,5,6] [(5,vs 17 3 s_int (l1 ++ [a1]))] [(17,rb 3 s_int (l1 ++ [a1])),(16,⟨2,3,1,false,false,s_int.F [a1]⟩)] 4 ?_
  refine Qzd hT 2 [0,1,5,6,7] [(7,vi a1)] ?_
  refine WA_seq ?_
  refine Qgd hT 2 [0,1,5,6,7,19,20] [(19,po s_Stmt a0),(20,vi i2)] ?_
  obtain ⟨x4,hx4,h⟩:=bsome h
  refine One' hT rfl (v_index s_Stmt .opt a0 .i64 i2 hx4) ?_
  refine Szd hT 3 [0,1,5,6,7,24] [(24,vb (x4.Kind == 8))] ?_
  obtain ⟨J6,hJ6,h⟩:=jsome h
  refine WA_join (fun s=>∃ (i5 : Int),J6 i5 = some r ∧ s = ⟨[(0,po s_Stmt a0),(1,vi a1),(5,vs 17 1 s_int (l1 ++ [a1])),(6,vi i2),(7,vi i5)],[(17,rb 1 s_int (l1 ++ [a1]))],2⟩) ?_ ?_
  ·refine Ci h (fun h=>?_) fun h=>?_
   ·refine Rgd hT 3 [0,1,5,6,25,26,27] [(25,vi a1),(26,po s_Stmt a0),(27,vi i2)] ?_
    obtain ⟨x7,hx7,h⟩:=bsome h
    refine One' hT rfl (v_index s_Stmt .opt a0 .i64 i2 hx7) ?_
    refine Sg hT 4 [0,1,5,6,7] ⟨[(0,po s_Stmt a0),(1,vi a1),(5,vs 17 3 s_int (l1 ++ [a1])),(6,vi i2),(7,vi (wr (a1 * x7.N)))],[(17,rb 3 s_int (l1 ++ [a1])),(16,⟨2,3,1,false,false,s_int.F [a1]⟩)],4⟩ ?_
    exact oK [0,1,5,6,7] [(17,17,1)] ⟨wr (a1 * x7.N),h,rfl⟩
   exact sK [0,1,5,6,7] [(17,17,1)] ⟨a1,h,rfl⟩
  subst hJ6
  rintro s ⟨i5,h,rfl⟩
  skip
  refine Qgd hT 3 [0,1,6,7,32,33,34] [(32,vs 17 1 s_int (l1 ++ [a1])),(33,po s_Stmt a0),(34,vi i2)] ?_
  obtain ⟨x8,hx8,h⟩:=bsome h
  refine One' hT rfl (v_index s_Stmt .opt a0 .i64 i2 hx8) ?_
  refine Sgd hT 3 [0,1,6,7,32,37,38] [(37,po s_Stmt x8.Body),(38,vi i5)] ?_
  obtain ⟨r9,hr9,h⟩:=bsome h
  refine Og [] [(100,rb 1 s_int r9)] [po s_Stmt x8.Body,vi i5] [po s_Stmt x8.Body,vi i5] [] [(100,39,2)] [(39,rb 2 s_int r9)] (vs 100 1 s_int r9) (vs 39 2 s_int r9) 3 en87 ((ih _ (by omega)) hr9) ?_
  refine Sgh hT 0 [0,1,6,7,32,39] [(39,vs 39 2 s_int r9)] [(39,rb 2 s_int r9),(17,rb 1 s_int (l1 ++ [a1]))] 3 ?_
  obtain ⟨g10,h⟩:=gsome h
  refine Oa hT s_int 17 1 true (l1 ++ [a1]) r9 (eO s_int 39 2 true (rb 2 s_int r9) r9) g10 ?_
  refine Szh hT 1 [0,1,5,6,7] [(5,vs 40 3 s_int ((l1 ++ [a1]) ++ r9))] [(40,rb 3 s_int ((l1 ++ [a1]) ++ r9)),(39,rb 2 s_int r9)] 4 ?_
  refine Rgd hT 3 [0,1,6,7,41,42,43] [(41,vs 40 3 s_int ((l1 ++ [a1]) ++ r9)),(42,po s_Stmt a0),(43,vi i2)] ?_
  obtain ⟨x11,hx11,h⟩:=bsome h
  refine One' hT rfl (v_index s_Stmt .opt a0 .i64 i2 hx11) ?_
  refine Sgd hT 3 [0,1,6,41,46,47] [(46,po s_Stmt x11.Else),(47,vi i5)] ?_
  obtain ⟨r12,hr12,h⟩:=bsome h
  refine Og [] [(100,rb 1 s_int r12)] [po s_Stmt x11.Else,vi i5] [po s_Stmt x11.Else,vi i5] [] [(100,48,4)] [(48,rb 4 s_int r12)] (vs 100 1 s_int r12) (vs 48 4 s_int r12) 5 en87 ((ih _ (by omega)) hr12) ?_
  refine Sgh hT 0 [0,1,6,41,48] [(48,vs 48 4 s_int r12)] [(48,rb 4 s_int r12),(40,rb 3 s_int ((l1 ++ [a1]) ++ r9)),(39,rb 2 s_int r9)] 5 ?_
  obtain ⟨g13,h⟩:=gsome h
  refine Oa hT s_int 40 3 true ((l1 ++ [a1]) ++ r9) r12 (eO s_int 48 4 true (rb 4 s_int r12) r12) g13 ?_
  refine Szh hT 1 [0,1,5,6] [(5,vs 49 5 s_int (((l1 ++ [a1]) ++ r9) ++ r12))] [(49,rb 5 s_int (((l1 ++ [a1]) ++ r9) ++ r12)),(48,rb 4 s_int r12),(39,rb 2 s_int r9)] 6 ?_
  refine Rg hT 3 [0,1,5,6] ⟨[(0,po s_Stmt a0),(1,vi a1),(5,vs 49 5 s_int (((l1 ++ [a1]) ++ r9) ++ r12)),(6,vi (wr (i2 + 1)))],[(49,rb 5 s_int (((l1 ++ [a1]) ++ r9) ++ r12)),(48,rb 4 s_int r12),(39,rb 2 s_int r9)],6⟩ ?_
  exact oK [0,1,5,6] [(49,10005,1)] ⟨_,by omega,by omega,((l1 ++ [a1]) ++ r9) ++ r12,wr (i2 + 1),h,rfl⟩
 refine WA_exit ?_
 refine Qzd hT 2 [4] [(4,vs 10005 1 s_int l1)] ?_
 obtain rfl:=Option.some.inj h
 exact rK [4] [(10005,100,1)] ⟨[(4,vs 100 1 s_int l1)],[(100,rb 1 s_int l1)],2⟩ ⟨by kernel_rfl,by kernel_rfl,rfl⟩
theorem ref22_weigh_all (n : Nat) : ref22_weigh_spec n:=by
 induction n using Nat.strongRecOn with
 | _ n ih=>exact ref22_weigh_step n ih
theorem ref22_weigh_ok {n : Nat} {a0 : List Stmt} {a1 : Int} {r : List Int} (h : ref22_weigh n a0 a1 = some r) : GO Tryz.prog 87 [] [po s_Stmt a0,vi a1] (vs 100 1 s_int r) [(100,rb 1 s_int r)]:=(ref22_weigh_all n) h
theorem ref22_Weights_ok {n : Nat} {a0 : Prog} {r : List Int} (h : ref22_Weights n a0 = some r) : GO Tryz.prog 56 [] [eProg a0] (vs 100 1 s_int r) [(100,rb 1 s_int r)]:=by
 unfold ref22_Weights at h
 refine GO_bodyA hT Tryz.func56 rfl [] (by kernel_rfl) fun bad w m=>?_
 refine Qz hT 2 [1] ⟨[(1,bx 1 1)],[(1,cb 1 27 2 (eProg a0))],2⟩ ?_
 refine Qzd hT 1 [1,3] [(3,vn)] ?_
 refine WA_seq ?_
 refine Qzd hT 1 [1,3,4] [(4,vi 0)] ?_
 refine WA_block ?_
 refine aW [1,3,4] ⟨[(1,bx 1 1),(3,vn),(4,vi 0)],[(1,cb 1 27 2 (eProg a0))],2⟩ ?_
 refine WA_weak (wO 3 5000 3 1) ?_
 refine lK [1,3,4] [(1,1,1),(5000,10003,1)] (fun k s=>∃ q,q ≤ k ∧ q ≤ n ∧ ∃ (l1 : List Int),∃ (i2 : Int),ref22_Weights_L0 q a0 l1 i2 = some r ∧ s = ⟨[(1,bx 1 1),(3,vs 10003 1 s_int l1),(4,vi i2)],[(1,cb 1 27 2 (eProg a0)),(10003,rb 1 s_int l1)],2⟩) n ⟨n,Nat.le_refl _,Nat.le_refl _,([] : List Int),0,h,rfl⟩ (by rintro s ⟨q,hq,_,l1,i2,h,_⟩; obtain rfl:=Nat.le_zero.1 hq; rw [ref22_Weights_L0] at h; cases h) ?_
 clear h
 rintro k1 s ⟨q1,hk1,hn1,l1,i2,h,rfl⟩
 rcases q1 with _ | q1
 ·rw [ref22_Weights_L0] at h; cases h
 rw [ref22_Weights_L0] at h
 refine WA_seq ?_
 refine Qgd hT 3 [1,3,4,5,7] [(5,vi i2),(7,po s_LStmt a0.Threads)] ?_
 refine One' hT rfl (v_len s_LStmt .opt a0.Threads) ?_
 refine Sz hT 1 [1,3,4,9] ⟨[(1,bx 1 1),(3,vs 10003 1 s_int l1),(4,vi i2),(9,vb (decide (i2 < (ln a0.Threads))))],[(1,cb 1 27 2 (eProg a0)),(10003,rb 1 s_int l1)],2⟩ ?_
 refine Ci h (fun h=>?_) fun h=>?_
 ·refine WA_skip ?_
  refine WA_seq ?_
  refine WA_block ?_
  refine Rgd hT 4 [1,4,12,14,15] [(12,vs 10003 1 s_int l1),(14,po s_LStmt a0.Threads),(15,vi i2)] ?_
  obtain ⟨x3,hx3,h⟩:=bsome h
  refine One' hT rfl (v_index s_LStmt .opt a0.Threads .i64 i2 hx3) ?_
  refine Sgd hT 1 [1,4,12,17] [(17,po s_Stmt x3)] ?_
  obtain ⟨r4,hr4,h⟩:=bsome h
  refine Og [] [(100,rb 1 s_int r4)] [po s_Stmt x3,vi 1] [po s_Stmt x3,vi 1] [] [(100,18,2)] [(18,rb 2 s_int r4)] (vs 100 1 s_int r4) (vs 18 2 s_int r4) 3 en87 (ref22_weigh_ok hr4) ?_
  refine Sgh hT 0 [1,4,12,18] [(18,vs 18 2 s_int r4)] [(18,rb 2 s_int r4),(1,cb 1 27 2 (eProg a0)),(10003,rb 1 s_int l1)] 3 ?_
  obtain ⟨g5,h⟩:=gsome h
  refine Oa hT s_int 10003 1 true l1 r4 (eO s_int 18 2 true (rb 2 s_int r4) r4) g5 ?_
  refine Szh hT 1 [1,3,4] [(3,vs 19 3 s_int (l1 ++ r4))] [(19,rb 3 s_int (l1 ++ r4)),(18,rb 2 s_int r4),(1,cb 1 27 2 (eProg a0))] 4 ?_
  refine Rgd hT 3 [1,3,4] [(4,vi (wr (i2 + 1)))] ?_
  exact oK [1,3,4] [(1,1,1),(19,10003,1)] ⟨_,by omega,by omega,l1 ++ r4,wr (i2 + 1),h,rfl⟩
 refine WA_exit ?_
 refine Qzd hT 2 [2] [(2,vs 10003 1 s_int l1)] ?_
 obtain rfl:=Option.some.inj h
 exact rK [2] [(10003,100,1)] ⟨[(2,vs 100 1 s_int l1)],[(100,rb 1 s_int l1)],2⟩ ⟨by kernel_rfl,by kernel_rfl,rfl⟩
def ref1_Names_spec (n : Nat) : Prop:=(∀ {a0 : Expr} {r : List ByteArray},ref1_Names n a0 = some r → GO Tryz.prog 119 [] [eExpr a0] (vs 100 1 s_string r) [(100,rb 1 s_string r)])
theorem ref1_Names_step (n : Nat) (ih : ∀ m,m < n → ref1_Names_spec m) : ∀ {a0 : Expr} {r : List ByteArray},ref1_Names n a0 = some r → GO Tryz.prog 119 [] [eExpr a0] (vs 100 1 s_string r) [(100,rb 1 s_string r)]:=by
 intro a0 r h
 rcases n with _ | n
 ·rw [ref1_Names] at h; cases h
 rw [ref1_Names] at h
 refine GO_bodyA hT Tryz.func119 rfl [] (by kernel_rfl) fun bad w m=>?_
 refine Qz hT 2 [1] ⟨[(1,bx 1 1)],[(1,cb 1 99 4 (eExpr a0))],2⟩ ?_
 refine Qzd hT 1 [1,3] [(3,vn)] ?_
 refine WA_seq ?_
 refine Qzd hT 3 [1,3,7] [(7,vb (a0.Kind == 2))] ?_
 obtain ⟨J2,hJ2,h⟩:=jsome h
 refine WA_join (fun s=>∃ (l1 : List ByteArray),J2 l1 = some r ∧ s = ⟨[(1,bx 1 1),(3,vs 10003 1 s_string l1)],[(1,cb 1 99 4 (eExpr a0)),(10003,rb 1 s_string l1)],2⟩) ?_ ?_
 ·refine Ci h (fun h=>?_) fun h=>?_
  ·refine Rg hT 4 [1,8,11] ⟨[(1,bx 1 1),(8,vn),(11,vs 11 2 s_string [a0.Name])],[(11,⟨2,9,1,false,false,s_string.F [a0.Name]⟩),(1,cb 1 99 4 (eExpr a0))],3⟩ ?_
   refine WO_weak (wO 8 6012 9 1) ?_
   obtain ⟨g3,h⟩:=gsome h
   refine Oa hT s_string 6012 3 true ([] : List ByteArray) [a0.Name] (eO s_string 11 2 true ⟨2,9,1,false,false,s_string.F [a0.Name]⟩ [a0.Name]) g3 ?_
   refine Sg hT 1 [1,3] ⟨[(1,bx 1 1),(3,vs 12 4 s_string (([] : List ByteArray) ++ [a0.Name]))],[(12,rb 4 s_string (([] : List ByteArray) ++ [a0.Name])),(11,⟨2,9,1,false,false,s_string.F [a0.Name]⟩),(1,cb 1 99 4 (eExpr a0))],5⟩ ?_
   exact oK [1,3] [(1,1,1),(12,10003,1)] ⟨([] : List ByteArray) ++ [a0.Name],h,rfl⟩
  refine aW [1,3] ⟨[(1,bx 1 1),(3,vn)],[(1,cb 1 99 4 (eExpr a0))],2⟩ ?_
  refine WA_weak (wO 3 5000 9 1) ?_
  exact sK [1,3] [(1,1,1),(5000,10003,1)] ⟨([] : List ByteArray),h,rfl⟩
 subst hJ2
 rintro s ⟨l1,h,rfl⟩
 refine WA_seq ?_
 refine Qzd hT 1 [1,3,4] [(4,vi 0)] ?_
 refine WA_block ?_
 refine lK [1,3,4] [(1,1,1),(10003,10003,1)] (fun k s=>∃ q,q ≤ k ∧ q ≤ n ∧ ∃ (l4 : List ByteArray),∃ (i5 : Int),ref1_Names_L0 q a0 l1 l4 i5 = some r ∧ s = ⟨[(1,bx 1 1),(3,vs 10003 1 s_string l4),(4,vi i5)],[(1,cb 1 99 4 (eExpr a0)),(10003,rb 1 s_string l4)],2⟩) n ⟨n,Nat.le_refl _,Nat.le_refl _,l1,0,h,rfl⟩ (by rintro s ⟨q,hq,_,l4,i5,h,_⟩; obtain rfl:=Nat.le_zero.1 hq; rw [ref1_Names_L0] at h; cases h) ?_
 clear h
 rintro k1 s ⟨q1,hk1,hn1,l4,i5,h,rfl⟩
 rcases q1 with _ | q1
 ·rw [ref1_Names_L0] at h; cases h
 rw [ref1_Names_L0] at h
 refine WA_seq ?_
 refine Qgd hT 3 [1,3,4,13,15] [(13,vi i5),(15,po s_Expr a0.Of)] ?_
 refine One' hT rfl (v_len s_Expr .opt a0.Of) ?_
 refine Szd hT 1 [1,3,4,17] [(17,vb (decide (i5 < (ln a0.Of))))] ?_
 refine Ci h (fun h=>?_) fun h=>?_
 ·refine WA_skip ?_
  refine WA_seq ?_
  refine WA_block ?_
  refine Rg hT 4 [1,4,20,22,23] ⟨[(1,bx 1 1),(4,vi i5),(20,vs 10003 1 s_string l4),(22,po s_Expr a0.Of),(23,vi i5)],[(1,cb 1 99 4 (eExpr a0)),(10003,rb 1 s_string l4)],2⟩ ?_
  obtain ⟨x6,hx6,h⟩:=bsome h
  refine One' hT rfl (v_index s_Expr .opt a0.Of .i64 i5 hx6) ?_
  refine Sgd hT 1 [1,4,20,25] [(25,eExpr x6)] ?_
  obtain ⟨r7,hr7,h⟩:=bsome h
  refine Og [] [(100,rb 1 s_string r7)] [eExpr x6] [eExpr x6] [] [(100,26,2)] [(26,rb 2 s_string r7)] (vs 100 1 s_string r7) (vs 26 2 s_string r7) 3 en119 ((ih _ (by omega)) hr7) ?_
  refine Sgh hT 0 [1,4,20,26] [(26,vs 26 2 s_string r7)] [(26,rb 2 s_string r7),(1,cb 1 99 4 (eExpr a0)),(10003,rb 1 s_string l4)] 3 ?_
  obtain ⟨g8,h⟩:=gsome h
  refine Oa hT s_string 10003 1 true l4 r7 (eO s_string 26 2 true (rb 2 s_string r7) r7) g8 ?_
  refine Szh hT 1 [1,3,4] [(3,vs 27 3 s_string (l4 ++ r7))] [(27,rb 3 s_string (l4 ++ r7)),(26,rb 2 s_string r7),(1,cb 1 99 4 (eExpr a0))] 4 ?_
  refine Rgd hT 3 [1,3,4] [(4,vi (wr (i5 + 1)))] ?_
  exact oK [1,3,4] [(1,1,1),(27,10003,1)] ⟨_,by omega,by omega,l4 ++ r7,wr (i5 + 1),h,rfl⟩
 refine WA_exit ?_
 refine Qzd hT 2 [2] [(2,vs 10003 1 s_string l4)] ?_
 obtain rfl:=Option.some.inj h
 exact rK [2] [(10003,100,1)] ⟨[(2,vs 100 1 s_string l4)],[(100,rb 1 s_string l4)],2⟩ ⟨by kernel_rfl,by kernel_rfl,rfl⟩
theorem ref1_Names_all (n : Nat) : ref1_Names_spec n:=by
 induction n using Nat.strongRecOn with
 | _ n ih=>exact ref1_Names_step n ih
theorem ref1_Names_ok {n : Nat} {a0 : Expr} {r : List ByteArray} (h : ref1_Names n a0 = some r) : GO Tryz.prog 119 [] [eExpr a0] (vs 100 1 s_string r) [(100,rb 1 s_string r)]:=(ref1_Names_all n) h
theorem ref1_Touches_ok {n : Nat} {a0 : Stmt} {r : List ByteArray} (h : ref1_Touches n a0 = some r) : GO Tryz.prog 88 [] [eStmt a0] (vs 100 1 s_string r) [(100,rb 1 s_string r)]:=by
 unfold ref1_Touches at h
 refine GO_bodyA hT Tryz.func88 rfl [] (by kernel_rfl) fun bad w m=>?_
 refine Qz hT 2 [1] ⟨[(1,bx 1 1)],[(1,cb 1 101 11 (eStmt a0))],2⟩ ?_
 refine Qzd hT 1 [1,3] [(3,vn)] ?_
 refine WA_seq ?_
 refine Qzd hT 2 [1,3,5] [(5,vi a0.Kind)] ?_
 obtain ⟨J2,hJ2,h⟩:=jsome h
 refine WA_join (fun s=>∃ (l1 : List ByteArray),J2 l1 = some r ∧ s = ⟨[(1,bx 1 1),(3,vs 10003 1 s_string l1)],[(1,cb 1 101 11 (eStmt a0)),(10003,rb 1 s_string l1)],2⟩) ?_ ?_
 ·refine WA_block ?_
  refine WA_seq ?_
  refine Qzd hT 2 [1,3,5,6] [(6,vb (a0.Kind == 1))] ?_
  obtain ⟨J4,hJ4,h⟩:=jsome h
  refine WA_join (fun s=>∃ (b3 : Bool),J4 b3 = some r ∧ s = ⟨[(1,bx 1 1),(3,vn),(6,vb b3)],[(1,cb 1 101 11 (eStmt a0))],2⟩) ?_ ?_
  ·refine Ci h (fun h=>?_) fun h=>?_
   ·exact sK [1,3,6] [(1,1,1)] ⟨(a0.Kind == 1),h,rfl⟩
   refine Qzd hT 2 [1,3,5,6] [(6,vb (a0.Kind == 4))] ?_
   refine Ci h (fun h=>?_) fun h=>?_
   ·exact sK [1,3,6] [(1,1,1)] ⟨(a0.Kind == 4),h,rfl⟩
   refine Qzd hT 2 [1,3,5,6] [(6,vb (a0.Kind == 6))] ?_
   refine Ci h (fun h=>?_) fun h=>?_
   ·exact sK [1,3,6] [(1,1,1)] ⟨(a0.Kind == 6),h,rfl⟩
   refine Rgd hT 2 [1,3,6] [(6,vb (a0.Kind == 7))] ?_
   exact oK [1,3,6] [(1,1,1)] ⟨(a0.Kind == 7),h,rfl⟩
  subst hJ4
  rintro s ⟨b3,h,rfl⟩
  skip
  refine Ci h (fun h=>?_) fun h=>?_
  ·refine Rgd hT 2 [1,12] [(12,eExpr a0.E)] ?_
   obtain ⟨r5,hr5,h⟩:=bsome h
   refine Og [] [(100,rb 1 s_string r5)] [eExpr a0.E] [eExpr a0.E] [] [(100,13,2)] [(13,rb 2 s_string r5)] (vs 100 1 s_string r5) (vs 13 2 s_string r5) 3 en119 (ref1_Names_ok hr5) ?_
   refine Sg hT 1 [1,3] ⟨[(1,bx 1 1),(3,vs 13 2 s_string r5)],[(13,rb 2 s_string r5),(1,cb 1 101 11 (eStmt a0))],3⟩ ?_
   exact oK [1,3] [(1,1,1),(13,10003,1)] ⟨r5,h,rfl⟩
  refine aW [1,3] ⟨[(1,bx 1 1),(3,vn)],[(1,cb 1 101 11 (eStmt a0))],2⟩ ?_
  refine WA_weak (wO 3 5000 9 1) ?_
  exact sK [1,3] [(1,1,1),(5000,10003,1)] ⟨([] : List ByteArray),h,rfl⟩
 subst hJ2
 rintro s ⟨l1,h,rfl⟩
 refine WA_seq ?_
 refine Qzd hT 3 [1,3,16] [(16,vb (a0.Kind == 1))] ?_
 obtain ⟨J7,hJ7,h⟩:=jsome h
 refine WA_join (fun s=>∃ (l6 : List ByteArray),J7 l6 = some r ∧ s = ⟨[(1,bx 1 1),(3,vs 10003 1 s_string l6)],[(1,cb 1 101 11 (eStmt a0)),(10003,rb 1 s_string l6)],2⟩) ?_ ?_
 ·refine Ci h (fun h=>?_) fun h=>?_
  ·refine Rg hT 4 [1,17,20] ⟨[(1,bx 1 1),(17,vs 10003 1 s_string l1),(20,vs 20 2 s_string [a0.Name])],[(20,⟨2,9,1,false,false,s_string.F [a0.Name]⟩),(1,cb 1 101 11 (eStmt a0)),(10003,rb 1 s_string l1)],3⟩ ?_
   obtain ⟨g8,h⟩:=gsome h
   refine Oa hT s_string 10003 1 true l1 [a0.Name] (eO s_string 20 2 true ⟨2,9,1,false,false,s_string.F [a0.Name]⟩ [a0.Name]) g8 ?_
   refine Sg hT 1 [1,3] ⟨[(1,bx 1 1),(3,vs 21 3 s_string (l1 ++ [a0.Name]))],[(21,rb 3 s_string (l1 ++ [a0.Name])),(20,⟨2,9,1,false,false,s_string.F [a0.Name]⟩),(1,cb 1 101 11 (eStmt a0))],4⟩ ?_
   exact oK [1,3] [(1,1,1),(21,10003,1)] ⟨l1 ++ [a0.Name],h,rfl⟩
  exact sK [1,3] [(1,1,1),(10003,10003,1)] ⟨l1,h,rfl⟩
 subst hJ7
 rintro s ⟨l6,h,rfl⟩
 refine WA_seq ?_
 refine Qzd hT 3 [1,3,24] [(24,vb (a0.Kind == 5))] ?_
 obtain ⟨J10,hJ10,h⟩:=jsome h
 refine WA_join (fun s=>∃ (l9 : List ByteArray),J10 l9 = some r ∧ s = ⟨[(3,vs 10003 1 s_string l9)],[(10003,rb 1 s_string l9)],2⟩) ?_ ?_
 ·refine Ci h (fun h=>?_) fun h=>?_
  ·refine Rg hT 4 [25,28] ⟨[(25,vs 10003 1 s_string l6),(28,vs 28 2 s_string [a0.Other])],[(28,⟨2,9,1,false,false,s_string.F [a0.Other]⟩),(1,cb 1 101 11 (eStmt a0)),(10003,rb 1 s_string l6)],3⟩ ?_
   obtain ⟨g11,h⟩:=gsome h
   refine Oa hT s_string 10003 1 true l6 [a0.Other] (eO s_string 28 2 true ⟨2,9,1,false,false,s_string.F [a0.Other]⟩ [a0.Other]) g11 ?_
   refine Sg hT 1 [3] ⟨[(3,vs 29 3 s_string (l6 ++ [a0.Other]))],[(29,rb 3 s_string (l6 ++ [a0.Other])),(28,⟨2,9,1,false,false,s_string.F [a0.Other]⟩),(1,cb 1 101 11 (eStmt a0))],4⟩ ?_
   exact oK [3] [(29,10003,1)] ⟨l6 ++ [a0.Other],h,rfl⟩
  exact sK [3] [(10003,10003,1)] ⟨l6,h,rfl⟩
 subst hJ10
 rintro s ⟨l9,h,rfl⟩
 refine Qzd hT 2 [2] [(2,vs 10003 1 s_string l9)] ?_
 obtain rfl:=Option.some.inj h
 exact rK [2] [(10003,100,1)] ⟨[(2,vs 100 1 s_string l9)],[(100,rb 1 s_string l9)],2⟩ ⟨by kernel_rfl,by kernel_rfl,rfl⟩
theorem ref22_hasName_ok {n : Nat} {a0 : List ByteArray} {a1 : ByteArray} {r : Bool} (h : ref22_hasName n a0 a1 = some r) : PT Tryz.prog 89 [po s_string a0,vw a1] (vb r):=by
 unfold ref22_hasName at h
 refine PT_bodyA hT Tryz.func89 rfl (by kernel_rfl) fun bad w=>?_
 refine Qzd hT 1 [0,1] [] ?_
 refine WA_seq ?_
 refine Qzd hT 1 [0,1,5] [(5,vi 0)] ?_
 refine WA_block ?_
 refine lK [0,1,5] [] (fun k s=>∃ q,q ≤ k ∧ q ≤ n ∧ ∃ (i1 : Int),ref22_hasName_L0 q a0 a1 i1 = some r ∧ s = ⟨[(0,po s_string a0),(1,vw a1),(5,vi i1)],[],1⟩) n ⟨n,Nat.le_refl _,Nat.le_refl _,0,h,rfl⟩ (by rintro s ⟨q,hq,_,i1,h,_⟩; obtain rfl:=Nat.le_zero.1 hq; rw [ref22_hasName_L0] at h; cases h) ?_
 clear h
 rintro k1 s ⟨q1,hk1,hn1,i1,h,rfl⟩
 rcases q1 with _ | q1
 ·rw [ref22_hasName_L0] at h; cases h
 rw [ref22_hasName_L0] at h
 refine WA_seq ?_
 refine Qgd hT 2 [0,1,5,6,7] [(6,vi i1),(7,po s_string a0)] ?_
 refine One' hT rfl (v_len s_string .opt a0) ?_
 refine Szd hT 1 [0,1,5,9] [(9,vb (decide (i1 < (ln a0))))] ?_
 refine Ci h (fun h=>?_) fun h=>?_
 ·refine WA_skip ?_
  refine WA_seq ?_
  refine WA_block ?_
  refine Qgd hT 2 [0,1,5,12,13] [(12,po s_string a0),(13,vi i1)] ?_
  obtain ⟨x2,hx2,h⟩:=bsome h
  refine One' hT rfl (v_index s_string .opt a0 .i64 i1 hx2) ?_
  refine Szd hT 3 [0,1,5,17] [(17,vb (bytesEq x2 a1))] ?_
  refine Ci h (fun h=>?_) fun h=>?_
  ·refine Qz hT 1 [4] ⟨[(4,vb true)],[],1⟩ ?_
   obtain rfl:=Option.some.inj h
   exact rK [4] [] ⟨[(4,vb true)],[],1⟩ ⟨by kernel_rfl,rfl⟩
  refine WA_skip ?_
  refine Rgd hT 3 [0,1,5] [(5,vi (wr (i1 + 1)))] ?_
  exact oK [0,1,5] [] ⟨_,by omega,by omega,wr (i1 + 1),h,rfl⟩
 refine WA_exit ?_
 refine Qz hT 1 [4] ⟨[(4,vb false)],[],1⟩ ?_
 obtain rfl:=Option.some.inj h
 exact rK [4] [] ⟨[(4,vb false)],[],1⟩ ⟨by kernel_rfl,rfl⟩
theorem ref22_meets_ok {n : Nat} {a0 : Stmt} {a1 : List ByteArray} {r : Bool} (h : ref22_meets n a0 a1 = some r) : PT Tryz.prog 57 [eStmt a0,po s_string a1] (vb r):=by
 unfold ref22_meets at h
 refine PT_bodyA hT Tryz.func57 rfl (by kernel_rfl) fun bad w=>?_
 refine Qzh hT 2 [1,2] [(2,bx 2 0)] [(2,cb 0 101 11 (eStmt a0))] 1 ?_
 refine Qgd hT 1 [1,7] [(7,eStmt a0)] ?_
 obtain ⟨r1,hr1,h⟩:=bsome h
 refine Og [] [(100,rb 1 s_string r1)] [eStmt a0] [eStmt a0] [] [(100,8,1)] [(8,rb 1 s_string r1)] (vs 100 1 s_string r1) (vs 8 1 s_string r1) 2 en88 (ref1_Touches_ok hr1) ?_
 refine Szh hT 1 [1,5] [(5,vs 8 1 s_string r1)] [(8,rb 1 s_string r1),(2,cb 0 101 11 (eStmt a0))] 2 ?_
 refine WA_seq ?_
 refine Qzd hT 1 [1,5,6] [(6,vi 0)] ?_
 refine WA_block ?_
 refine lK [1,5,6] [(8,8,0)] (fun k s=>∃ q,q ≤ k ∧ q ≤ n ∧ ∃ (i2 : Int),ref22_meets_L0 q a0 a1 r1 i2 = some r ∧ s = ⟨[(1,po s_string a1),(5,vs 8 0 s_string r1),(6,vi i2)],[(8,rb 0 s_string r1)],1⟩) n ⟨n,Nat.le_refl _,Nat.le_refl _,0,h,rfl⟩ (by rintro s ⟨q,hq,_,i2,h,_⟩; obtain rfl:=Nat.le_zero.1 hq; rw [ref22_meets_L0] at h; cases h) ?_
 clear h
 rintro k1 s ⟨q1,hk1,hn1,i2,h,rfl⟩
 rcases q1 with _ | q1
 ·rw [ref22_meets_L0] at h; cases h
 rw [ref22_meets_L0] at h
 refine WA_seq ?_
 refine Qgd hT 2 [1,5,6,9,10] [(9,vi i2),(10,vs 8 0 s_string r1)] ?_
 refine One' hT rfl (v_len_own s_string 8 0 true (rb 0 s_string r1) r1) ?_
 refine Szd hT 1 [1,5,6,12] [(12,vb (decide (i2 < (ln r1))))] ?_
 refine Ci h (fun h=>?_) fun h=>?_
 ·refine WA_skip ?_
  refine WA_seq ?_
  refine WA_block ?_
  refine Qgd hT 3 [1,5,6,15,16,17] [(15,po s_string a1),(16,vs 8 0 s_string r1),(17,vi i2)] ?_
  obtain ⟨x3,hx3,h⟩:=bsome h
  refine One' hT rfl (v_index_own s_string 8 0 true (rb 0 s_string r1) r1 .i64 i2 hx3) ?_
  refine Sgd hT 0 [1,5,6,15,18] [(18,.box 8 0 i2.toNat 0)] ?_
  refine One' hT rfl (v_load_row s_string 8 0 (rb 0 s_string r1) r1 i2.toNat 0 x3 (vw x3) (idx_some hx3).2) ?_
  refine Sgd hT 0 [1,5,6,15,19] [(19,vw x3)] ?_
  obtain ⟨r4,hr4,h⟩:=bsome h
  refine Pt' en89 (ref22_hasName_ok hr4) ?_
  refine Szd hT 0 [1,5,6,20] [(20,vb r4)] ?_
  refine Ci h (fun h=>?_) fun h=>?_
  ·refine Qz hT 1 [4] ⟨[(4,vb true)],[(8,rb 0 s_string r1)],1⟩ ?_
   obtain rfl:=Option.some.inj h
   exact rK [4] [] ⟨[(4,vb true)],[],1⟩ ⟨by kernel_rfl,rfl⟩
  refine WA_skip ?_
  refine Rgd hT 3 [1,5,6] [(6,vi (wr (i2 + 1)))] ?_
  exact oK [1,5,6] [(8,8,0)] ⟨_,by omega,by omega,wr (i2 + 1),h,rfl⟩
 refine WA_exit ?_
 refine Qzd hT 1 [4] [(4,vb false)] ?_
 obtain rfl:=Option.some.inj h
 exact rK [4] [] ⟨[(4,vb false)],[],1⟩ ⟨by kernel_rfl,rfl⟩
theorem ref22_Upgrade_ok {n : Nat} {a0 : Prog} {a1 : ByteArray} {r : Int} (h : ref22_Upgrade n a0 a1 = some r) : PT Tryz.prog 29 [eProg a0,vw a1] (vi r):=by
 unfold ref22_Upgrade at h
 refine PT_bodyA hT Tryz.func29 rfl (by kernel_rfl) fun bad w=>?_
 refine Qz hT 2 [1,2] ⟨[(1,vw a1),(2,bx 2 0)],[(2,cb 0 27 2 (eProg a0))],1⟩ ?_
 refine Qgd hT 1 [1,2,9] [(9,eProg a0)] ?_
 obtain ⟨r1,hr1,h⟩:=bsome h
 refine Og [] [(100,rb 1 s_Stmt r1)] [eProg a0] [eProg a0] [] [(100,10,1)] [(10,rb 1 s_Stmt r1)] (vs 100 1 s_Stmt r1) (vs 10 1 s_Stmt r1) 2 en55 (ref1_List_ok hr1) ?_
 refine Szh hT 1 [1,2,5] [(5,vs 10 1 s_Stmt r1)] [(10,rb 1 s_Stmt r1),(2,cb 0 27 2 (eProg a0))] 2 ?_
 refine Qgd hT 1 [1,5,11] [(11,eProg a0)] ?_
 obtain ⟨r2,hr2,h⟩:=bsome h
 refine Og [] [(100,rb 1 s_int r2)] [eProg a0] [eProg a0] [] [(100,12,2)] [(12,rb 2 s_int r2)] (vs 100 1 s_int r2) (vs 12 2 s_int r2) 3 en56 (ref22_Weights_ok hr2) ?_
 refine Szh hT 1 [1,5,6] [(6,vs 12 2 s_int r2)] [(12,rb 2 s_int r2),(10,rb 1 s_Stmt r1),(2,cb 0 27 2 (eProg a0))] 3 ?_
 refine Qzd hT 1 [1,5,6,7] [(7,vi 0)] ?_
 refine WA_seq ?_
 refine Qzd hT 1 [1,5,6,7,8] [(8,vi 0)] ?_
 refine WA_block ?_
 refine lK [1,5,6,7,8] [(10,10,0),(12,12,0)] (fun k s=>∃ q,q ≤ k ∧ q ≤ n ∧ ∃ (i3 : Int),∃ (i4 : Int),ref22_Upgrade_L0 q a0 a1 r1 r2 i3 i4 = some r ∧ s = ⟨[(1,vw a1),(5,vs 10 0 s_Stmt r1),(6,vs 12 0 s_int r2),(7,vi i3),(8,vi i4)],[(10,rb 0 s_Stmt r1),(12,rb 0 s_int r2)],1⟩) n ⟨n,Nat.le_refl _,Nat.le_refl _,0,0,h,rfl⟩ (by rintro s ⟨q,hq,_,i3,i4,h,_⟩; obtain rfl:=Nat.le_zero.1 hq; rw [ref22_Upgrade_L0] at h; cases h) ?_
 clear h
 rintro k1 s ⟨q1,hk1,hn1,i3,i4,h,rfl⟩
 rcases q1 with _ | q1
 ·rw [ref22_Upgrade_L0] at h; cases h
 rw [ref22_Upgrade_L0] at h
 refine WA_seq ?_
 refine Qgd hT 2 [1,5,6,7,8,13,14] [(13,vi i4),(14,vs 10 0 s_Stmt r1)] ?_
 refine One' hT rfl (v_len_own s_Stmt 10 0 true (rb 0 s_Stmt r1) r1) ?_
 refine Szd hT 1 [1,5,6,7,8,16] [(16,vb (decide (i4 < (ln r1))))] ?_
 refine Ci h (fun h=>?_) fun h=>?_
 ·refine WA_skip ?_
  refine WA_seq ?_
  obtain ⟨J6,hJ6,h⟩:=jsome h
  refine WA_join (fun s=>∃ (i5 : Int),J6 i5 = some r ∧ s = ⟨[(1,vw a1),(5,vs 10 0 s_Stmt r1),(6,vs 12 0 s_int r2),(7,vi i5),(8,vi i4)],[(10,rb 0 s_Stmt r1),(12,rb 0 s_int r2)],1⟩) ?_ ?_
  ·refine WA_block ?_
   refine Qgd hT 2 [1,5,6,7,8,19,20] [(19,vs 10 0 s_Stmt r1),(20,vi i4)] ?_
   obtain ⟨x7,hx7,h⟩:=bsome h
   refine One' hT rfl (v_index_own s_Stmt 10 0 true (rb 0 s_Stmt r1) r1 .i64 i4 hx7) ?_
   refine Sgd hT 0 [1,5,6,7,8,21] [(21,.box 10 0 i4.toNat 0)] ?_
   refine One' hT rfl (v_load_row s_Stmt 10 0 (rb 0 s_Stmt r1) r1 i4.toNat 0 x7 (eStmt x7) (idx_some hx7).2) ?_
   refine Sgh hT 2 [1,5,6,7,8,22,24] [(22,eStmt x7),(24,vs 24 1 s_string [a1])] [(24,⟨1,9,1,false,false,s_string.F [a1]⟩),(10,rb 0 s_Stmt r1),(12,rb 0 s_int r2)] 2 ?_
   refine WO_weak (wF 24 1 ⟨1,9,1,false,false,s_string.F [a1]⟩ [(1,vw a1),(5,vs 10 0 s_Stmt r1),(6,vs 12 0 s_int r2),(7,vi i3),(8,vi i4),(22,eStmt x7),(24,po s_string [a1])] [(10,rb 0 s_Stmt r1),(12,rb 0 s_int r2)] ⟨rfl,.keep _,rfl,.keep _,rfl,.keep _,rfl,.keep _,rfl,.keep _,rfl,.keep _,rfl,.hit true,trivial⟩ ⟨rfl,.inl rfl,rfl,.inl rfl,trivial⟩) ?_
   obtain ⟨r8,hr8,h⟩:=bsome h
   refine Pt' en57 (ref22_meets_ok hr8) ?_
   refine Szd hT 0 [1,5,6,7,8,25] [(25,vb r8)] ?_
   refine Ci h (fun h=>?_) fun h=>?_
   ·refine Rg hT 3 [1,5,6,8,26,27,28] ⟨[(1,vw a1),(5,vs 10 0 s_Stmt r1),(6,vs 12 0 s_int r2),(8,vi i4),(26,vi i3),(27,vs 12 0 s_int r2),(28,vi i4)],[(10,rb 0 s_Stmt r1),(12,rb 0 s_int r2)],2⟩ ?_
    obtain ⟨x9,hx9,h⟩:=bsome h
    refine One' hT rfl (v_index_own s_int 12 0 true (rb 0 s_int r2) r2 .i64 i4 hx9) ?_
    refine Sgd hT 0 [1,5,6,8,26,29] [(29,.box 12 0 i4.toNat 0)] ?_
    refine One' hT rfl (v_load_row s_int 12 0 (rb 0 s_int r2) r2 i4.toNat 0 x9 (vi x9) (idx_some hx9).2) ?_
    refine Sgd hT 2 [1,5,6,7,8] [(7,vi (wr (i3 + x9)))] ?_
    exact oK [1,5,6,7,8] [(10,10,0),(12,12,0)] ⟨wr (i3 + x9),h,rfl⟩
   exact sK [1,5,6,7,8] [(10,10,0),(12,12,0)] ⟨i3,h,rfl⟩
  subst hJ6
  rintro s ⟨i5,h,rfl⟩
  skip
  refine Rgd hT 3 [1,5,6,7,8] [(8,vi (wr (i4 + 1)))] ?_
  exact oK [1,5,6,7,8] [(10,10,0),(12,12,0)] ⟨_,by omega,by omega,i5,wr (i4 + 1),h,rfl⟩
 refine WA_exit ?_
 refine Qzd hT 2 [4] [(4,vi i3)] ?_
 obtain rfl:=Option.some.inj h
 exact rK [4] [] ⟨[(4,vi i3)],[],1⟩ ⟨by kernel_rfl,rfl⟩
theorem ref22_Cost_ok {n : Nat} {a0 : Int} {a1 : Int} {r : Cx} (h : ref22_Cost n a0 a1 = some r) : PT Tryz.prog 28 [vi a0,vi a1] (vz r):=by
 unfold ref22_Cost at h
 refine PT_bodyA hT Tryz.func28 rfl (by kernel_rfl) fun bad w=>?_
 refine Qzd hT 1 [0,1] [] ?_
 refine Qz hT 6 [4] ⟨[(4,vz (⟨FloatKind.f64.nearest a0,FloatKind.f64.nearest a1⟩ : Cx))],[],0⟩ ?_
 obtain rfl:=Option.some.inj h
 exact rK [4] [] ⟨[(4,vz (⟨FloatKind.f64.nearest a0,FloatKind.f64.nearest a1⟩ : Cx))],[],1⟩ ⟨by kernel_rfl,rfl⟩
theorem ref22_namesOf_ok {n : Nat} {a0 : Prog} {a1 : List Int} {r : List ByteArray} (h : ref22_namesOf n a0 a1 = some r) : GO Tryz.prog 59 [] [eProg a0,po s_int a1] (vs 100 1 s_string r) [(100,rb 1 s_string r)]:=by
 unfold ref22_namesOf at h
 refine GO_bodyA hT Tryz.func59 rfl [] (by kernel_rfl) fun bad w m=>?_
 refine Qzh hT 2 [1,2] [(2,bx 2 1)] [(2,cb 1 27 2 (eProg a0))] 2 ?_
 refine Qzd hT 1 [1,2,5] [(5,vn)] ?_
 refine WA_seq ?_
 refine Qzd hT 1 [1,2,5,6] [(6,vi 0)] ?_
 refine WA_block ?_
 refine aW [1,2,5,6] ⟨[(1,po s_int a1),(2,bx 2 1),(5,vn),(6,vi 0)],[(2,cb 1 27 2 (eProg a0))],2⟩ ?_
 refine WA_weak (wO 5 5000 9 1) ?_
 refine lK [1,2,5,6] [(2,2,1),(5000,10005,1)] (fun k s=>∃ q,q ≤ k ∧ q ≤ n ∧ ∃ (l1 : List ByteArray),∃ (i2 : Int),ref22_namesOf_L0 q a0 a1 l1 i2 = some r ∧ s = ⟨[(1,po s_int a1),(2,bx 2 1),(5,vs 10005 1 s_string l1),(6,vi i2)],[(2,cb 1 27 2 (eProg a0)),(10005,rb 1 s_string l1)],2⟩) n ⟨n,Nat.le_refl _,Nat.le_refl _,([] : List ByteArray),0,h,rfl⟩ (by rintro s ⟨q,hq,_,l1,i2,h,_⟩; obtain rfl:=Nat.le_zero.1 hq; rw [ref22_namesOf_L0] at h; cases h) ?_
 clear h
 rintro k1 s ⟨q1,hk1,hn1,l1,i2,h,rfl⟩
 rcases q1 with _ | q1
 ·rw [ref22_namesOf_L0] at h; cases h
 rw [ref22_namesOf_L0] at h
 refine WA_seq ?_
 refine Qgd hT 2 [1,2,5,6,7,8] [(7,vi i2),(8,po s_int a1)] ?_
 refine One' hT rfl (v_len s_int .opt a1) ?_
 refine Szd hT 1 [1,2,5,6,10] [(10,vb (decide (i2 < (ln a1))))] ?_
 refine Ci h (fun h=>?_) fun h=>?_
 ·refine WA_skip ?_
  refine WA_seq ?_
  refine WA_block ?_
  refine WA_drawW hT hM (by kernel_rfl) ?_
  refine Ds 5 [(17,vi i2),(16,po s_int a1),(15,po s_Decl a0.Decls),(14,bx 2 1),(13,vs 10005 1 s_string l1)] [] [(1,[2]),(2,[2])] ?_
  obtain ⟨x3,hx3,h⟩:=bsome h
  refine Dl rfl (v_index s_int .opt a1 .i64 i2 hx3) ?_
  refine Dt (.ref (e_i64 x3) 0) ?_
  refine Ds 1 [(19,vi x3)] [] [] ?_
  obtain ⟨x4,hx4,h⟩:=bsome h
  refine Dl rfl (v_index s_Decl .opt a0.Decls .i64 x3 hx4) ?_
  refine Dt (.ref (eDecl x4) 0) ?_
  refine Ds 3 [(23,.ps .full (s_string.F [x4.Name])),(22,vw x4.Name),(21,.ref (eDecl x4) 1)] [] [] ?_
  obtain ⟨g5,h⟩:=gsome h
  refine Dw rfl (ev_append s_string 10005 1 true l1 [x4.Name] (by kernel_rfl) (by kernel_rfl) (by kernel_rfl) (by simp) g5) ?_
  refine Dh 1 [(5,vs 24 2 s_string (l1 ++ [x4.Name]))] [(24,⟨2,9,1,false,false,s_string.F (l1 ++ [x4.Name])⟩),(2,cb 1 27 2 (eProg a0))] 3 [] [] ?_
  refine De ?_
  refine Wk_done ?_
  refine Rgd hT 3 [1,2,5,6] [(6,vi (wr (i2 + 1)))] ?_
  refine oW [1,2,5,6] ⟨[(1,po s_int a1),(2,bx 2 1),(5,vs 24 2 s_string (l1 ++ [x4.Name])),(6,vi (wr (i2 + 1)))],[(24,⟨2,9,1,false,false,s_string.F (l1 ++ [x4.Name])⟩),(2,cb 1 27 2 (eProg a0))],3⟩ ?_
  refine WO_weak (wL [(1,po s_int a1),(2,bx 2 1),(5,vs 24 2 s_string (l1 ++ [x4.Name])),(6,vi (wr (i2 + 1)))] [(24,rb 2 s_string (l1 ++ [x4.Name])),(2,cb 1 27 2 (eProg a0))] ⟨VLf.refl _,VLf.refl _,VLf.refl _,VLf.refl _,trivial⟩ ⟨rfl,.inr (.inr rfl),rfl,.inl rfl,trivial⟩) ?_
  exact oR [(2,2,1),(24,10005,1)] ⟨_,by omega,by omega,l1 ++ [x4.Name],wr (i2 + 1),h,rfl⟩
 refine WA_exit ?_
 refine Qzd hT 2 [4] [(4,vs 10005 1 s_string l1)] ?_
 obtain rfl:=Option.some.inj h
 exact rK [4] [(10005,100,1)] ⟨[(4,vs 100 1 s_string l1)],[(100,rb 1 s_string l1)],2⟩ ⟨by kernel_rfl,by kernel_rfl,rfl⟩
def ref22_within_spec (n : Nat) : Prop:=(∀ {a0 : Stmt} {r : Int},ref22_within n a0 = some r → PT Tryz.prog 120 [eStmt a0] (vi r))
theorem ref22_within_step (n : Nat) (ih : ∀ m,m < n → ref22_within_spec m) : ∀ {a0 : Stmt} {r : Int},ref22_within n a0 = some r → PT Tryz.prog 120 [eStmt a0] (vi r):=by
 intro a0 r h
 rcases n with _ | n
 ·rw [ref22_within] at h; cases h
 rw [ref22_within] at h
 refine PT_bodyA hT Tryz.func120 rfl (by kernel_rfl) fun bad w=>?_
 refine Qz hT 2 [1] ⟨[(1,bx 1 0)],[(1,cb 0 101 11 (eStmt a0))],1⟩ ?_
 refine Qzd hT 1 [1,3] [(3,vi 0)] ?_
 refine WA_seq ?_
 refine Qzd hT 1 [1,3,4] [(4,vi 0)] ?_
 refine WA_block ?_
 refine lK [1,3,4] [(1,1,0)] (fun k s=>∃ q,q ≤ k ∧ q ≤ n ∧ ∃ (i1 : Int),∃ (i2 : Int),ref22_within_L0 q a0 i1 i2 = some r ∧ s = ⟨[(1,bx 1 0),(3,vi i1),(4,vi i2)],[(1,cb 0 101 11 (eStmt a0))],1⟩) n ⟨n,Nat.le_refl _,Nat.le_refl _,0,0,h,rfl⟩ (by rintro s ⟨q,hq,_,i1,i2,h,_⟩; obtain rfl:=Nat.le_zero.1 hq; rw [ref22_within_L0] at h; cases h) ?_
 clear h
 rintro k1 s ⟨q1,hk1,hn1,i1,i2,h,rfl⟩
 rcases q1 with _ | q1
 ·rw [ref22_within_L0] at h; cases h
 rw [ref22_within_L0] at h
 refine WA_seq ?_
 refine Qgd hT 3 [1,3,4,6,8] [(6,vi i2),(8,po s_Stmt a0.Body)] ?_
 refine One' hT rfl (v_len s_Stmt .opt a0.Body) ?_
 refine Szd hT 1 [1,3,4,10] [(10,vb (decide (i2 < (ln a0.Body))))] ?_
 refine Ci h (fun h=>?_) fun h=>?_
 ·refine WA_skip ?_
  refine WA_seq ?_
  refine WA_block ?_
  refine Rgd hT 5 [1,4,14,16,17] [(14,vi (wr (i1 + 1))),(16,po s_Stmt a0.Body),(17,vi i2)] ?_
  obtain ⟨x3,hx3,h⟩:=bsome h
  refine One' hT rfl (v_index s_Stmt .opt a0.Body .i64 i2 hx3) ?_
  refine Sg hT 1 [1,4,14,19] ⟨[(1,bx 1 0),(4,vi i2),(14,vi (wr (i1 + 1))),(19,eStmt x3)],[(1,cb 0 101 11 (eStmt a0))],1⟩ ?_
  obtain ⟨r4,hr4,h⟩:=bsome h
  refine Pt' en120 ((ih _ (by omega)) hr4) ?_
  refine Szd hT 2 [1,3,4] [(3,vi (wr ((wr (i1 + 1)) + r4)))] ?_
  refine Rgd hT 3 [1,3,4] [(4,vi (wr (i2 + 1)))] ?_
  exact oK [1,3,4] [(1,1,0)] ⟨_,by omega,by omega,wr ((wr (i1 + 1)) + r4),wr (i2 + 1),h,rfl⟩
 refine WA_exit ?_
 refine WA_seq ?_
 refine Qzd hT 1 [1,3,5] [(5,vi 0)] ?_
 refine WA_block ?_
 refine lK [1,3,5] [(1,1,0)] (fun k s=>∃ q,q ≤ k ∧ q ≤ q1 ∧ ∃ (i5 : Int),∃ (i6 : Int),ref22_within_L1 q a0 i1 i2 i5 i6 = some r ∧ s = ⟨[(1,bx 1 0),(3,vi i5),(5,vi i6)],[(1,cb 0 101 11 (eStmt a0))],1⟩) q1 ⟨q1,Nat.le_refl _,Nat.le_refl _,i1,0,h,rfl⟩ (by rintro s ⟨q,hq,_,i5,i6,h,_⟩; obtain rfl:=Nat.le_zero.1 hq; rw [ref22_within_L1] at h; cases h) ?_
 clear h
 rintro k2 s ⟨q2,hk2,hn2,i5,i6,h,rfl⟩
 rcases q2 with _ | q2
 ·rw [ref22_within_L1] at h; cases h
 rw [ref22_within_L1] at h
 refine WA_seq ?_
 refine Qgd hT 3 [1,3,5,22,24] [(22,vi i6),(24,po s_Stmt a0.Else)] ?_
 refine One' hT rfl (v_len s_Stmt .opt a0.Else) ?_
 refine Szd hT 1 [1,3,5,26] [(26,vb (decide (i6 < (ln a0.Else))))] ?_
 refine Ci h (fun h=>?_) fun h=>?_
 ·refine WA_skip ?_
  refine WA_seq ?_
  refine WA_block ?_
  refine Rg hT 5 [1,5,30,32,33] ⟨[(1,bx 1 0),(5,vi i6),(30,vi (wr (i5 + 1))),(32,po s_Stmt a0.Else),(33,vi i6)],[(1,cb 0 101 11 (eStmt a0))],1⟩ ?_
  obtain ⟨x7,hx7,h⟩:=bsome h
  refine One' hT rfl (v_index s_Stmt .opt a0.Else .i64 i6 hx7) ?_
  refine Sgd hT 1 [1,5,30,35] [(35,eStmt x7)] ?_
  obtain ⟨r8,hr8,h⟩:=bsome h
  refine Pt' en120 ((ih _ (by omega)) hr8) ?_
  refine Szd hT 2 [1,3,5] [(3,vi (wr ((wr (i5 + 1)) + r8)))] ?_
  refine Rgd hT 3 [1,3,5] [(5,vi (wr (i6 + 1)))] ?_
  exact oK [1,3,5] [(1,1,0)] ⟨_,by omega,by omega,wr ((wr (i5 + 1)) + r8),wr (i6 + 1),h,rfl⟩
 refine WA_exit ?_
 refine Qzd hT 2 [2] [(2,vi i5)] ?_
 obtain rfl:=Option.some.inj h
 exact rK [2] [] ⟨[(2,vi i5)],[],1⟩ ⟨by kernel_rfl,rfl⟩
theorem ref22_within_all (n : Nat) : ref22_within_spec n:=by
 induction n using Nat.strongRecOn with
 | _ n ih=>exact ref22_within_step n ih
theorem ref22_within_ok {n : Nat} {a0 : Stmt} {r : Int} (h : ref22_within n a0 = some r) : PT Tryz.prog 120 [eStmt a0] (vi r):=(ref22_within_all n) h
theorem ref22_Wrapped_ok {n : Nat} {a0 : Prog} {a1 : List ByteArray} {r : List Int} (h : ref22_Wrapped n a0 a1 = some r) : GO Tryz.prog 90 [] [eProg a0,po s_string a1] (vs 100 1 s_int r) [(100,rb 1 s_int r)]:=by
 unfold ref22_Wrapped at h
 refine GO_bodyA hT Tryz.func90 rfl [] (by kernel_rfl) fun bad w m=>?_
 refine Qzh hT 2 [1,2] [(2,bx 2 1)] [(2,cb 1 27 2 (eProg a0))] 2 ?_
 refine Qgd hT 1 [1,8] [(8,eProg a0)] ?_
 obtain ⟨r1,hr1,h⟩:=bsome h
 refine Og [] [(100,rb 1 s_Stmt r1)] [eProg a0] [eProg a0] [] [(100,9,2)] [(9,rb 2 s_Stmt r1)] (vs 100 1 s_Stmt r1) (vs 9 2 s_Stmt r1) 3 en55 (ref1_List_ok hr1) ?_
 refine Szh hT 1 [1,5] [(5,vs 9 2 s_Stmt r1)] [(9,rb 2 s_Stmt r1),(2,cb 1 27 2 (eProg a0))] 3 ?_
 refine Qzd hT 1 [1,5,6] [(6,vn)] ?_
 refine WA_seq ?_
 refine Qzd hT 1 [1,5,6,7] [(7,vi 0)] ?_
 refine WA_block ?_
 refine aW [1,5,6,7] ⟨[(1,po s_string a1),(5,vs 9 2 s_Stmt r1),(6,vn),(7,vi 0)],[(9,rb 2 s_Stmt r1),(2,cb 1 27 2 (eProg a0))],3⟩ ?_
 refine WA_weak (wO 6 5000 3 1) ?_
 refine lK [1,5,6,7] [(9,9,1),(5000,10006,1)] (fun k s=>∃ q,q ≤ k ∧ q ≤ n ∧ ∃ (l2 : List Int),∃ (i3 : Int),ref22_Wrapped_L0 q a0 a1 r1 l2 i3 = some r ∧ s = ⟨[(1,po s_string a1),(5,vs 9 1 s_Stmt r1),(6,vs 10006 1 s_int l2),(7,vi i3)],[(9,rb 1 s_Stmt r1),(10006,rb 1 s_int l2)],2⟩) n ⟨n,Nat.le_refl _,Nat.le_refl _,([] : List Int),0,h,rfl⟩ (by rintro s ⟨q,hq,_,l2,i3,h,_⟩; obtain rfl:=Nat.le_zero.1 hq; rw [ref22_Wrapped_L0] at h; cases h) ?_
 clear h
 rintro k1 s ⟨q1,hk1,hn1,l2,i3,h,rfl⟩
 rcases q1 with _ | q1
 ·rw [ref22_Wrapped_L0] at h; cases h
 rw [ref22_Wrapped_L0] at h
 refine WA_seq ?_
 refine Qgd hT 2 [1,5,6,7,10,11] [(10,vi i3),(11,vs 9 1 s_Stmt r1)] ?_
 refine One' hT rfl (v_len_own s_Stmt 9 1 true (rb 1 s_Stmt r1) r1) ?_
 refine Szd hT 1 [1,5,6,7,13] [(13,vb (decide (i3 < (ln r1))))] ?_
 refine Ci h (fun h=>?_) fun h=>?_
 ·refine WA_skip ?_
  refine WA_seq ?_
  obtain ⟨J6,hJ6,h⟩:=jsome h
  refine WA_join (fun s=>∃ (l4 : List Int),∃ (i5 : Int),J6 l4 i5 = some r ∧ s = ⟨[(1,po s_string a1),(5,vs 9 1 s_Stmt r1),(6,vs 10006 1 s_int l4),(7,vi i5)],[(9,rb 1 s_Stmt r1),(10006,rb 1 s_int l4)],2⟩) ?_ ?_
  ·refine WA_block ?_
   refine Qgd hT 2 [1,5,6,7,16,17] [(16,vs 9 1 s_Stmt r1),(17,vi i3)] ?_
   obtain ⟨x7,hx7,h⟩:=bsome h
   refine One' hT rfl (v_index_own s_Stmt 9 1 true (rb 1 s_Stmt r1) r1 .i64 i3 hx7) ?_
   refine Sgd hT 0 [1,5,6,7,18] [(18,.box 9 1 i3.toNat 0)] ?_
   refine One' hT rfl (v_load_row s_Stmt 9 1 (rb 1 s_Stmt r1) r1 i3.toNat 0 x7 (eStmt x7) (idx_some hx7).2) ?_
   refine Sgd hT 1 [1,5,6,7,19,20] [(19,eStmt x7),(20,po s_string a1)] ?_
   obtain ⟨r8,hr8,h⟩:=bsome h
   refine Pt' en57 (ref22_meets_ok hr8) ?_
   refine Szd hT 0 [1,5,6,7,21] [(21,vb r8)] ?_
   refine Ci h (fun h=>?_) fun h=>?_
   ·refine Qgh hT 3 [1,5,7,22,24] [(22,vs 10006 1 s_int l2),(24,vs 24 2 s_int [i3])] [(24,⟨2,3,1,false,false,s_int.F [i3]⟩),(9,rb 1 s_Stmt r1),(10006,rb 1 s_int l2)] 3 ?_
    obtain ⟨g9,h⟩:=gsome h
    refine Oa hT s_int 10006 1 true l2 [i3] (eO s_int 24 2 true ⟨2,3,1,false,false,s_int.F [i3]⟩ [i3]) g9 ?_
    refine Szh hT 1 [1,5,6,7] [(6,vs 25 3 s_int (l2 ++ [i3]))] [(25,rb 3 s_int (l2 ++ [i3])),(24,⟨2,3,1,false,false,s_int.F [i3]⟩),(9,rb 1 s_Stmt r1)] 4 ?_
    refine Rgd hT 3 [1,5,6,26,27,28] [(26,vi i3),(27,vs 9 1 s_Stmt r1),(28,vi i3)] ?_
    obtain ⟨x10,hx10,h⟩:=bsome h
    refine One' hT rfl (v_index_own s_Stmt 9 1 true (rb 1 s_Stmt r1) r1 .i64 i3 hx10) ?_
    refine Sgd hT 0 [1,5,6,26,29] [(29,.box 9 1 i3.toNat 0)] ?_
    refine One' hT rfl (v_load_row s_Stmt 9 1 (rb 1 s_Stmt r1) r1 i3.toNat 0 x10 (eStmt x10) (idx_some hx10).2) ?_
    refine Sg hT 0 [1,5,6,26,30] ⟨[(1,po s_string a1),(5,vs 9 1 s_Stmt r1),(6,vs 25 3 s_int (l2 ++ [i3])),(26,vi i3),(30,eStmt x10)],[(25,rb 3 s_int (l2 ++ [i3])),(24,⟨2,3,1,false,false,s_int.F [i3]⟩),(9,rb 1 s_Stmt r1)],4⟩ ?_
    obtain ⟨r11,hr11,h⟩:=bsome h
    refine Pt' en120 (ref22_within_ok hr11) ?_
    refine Sgd hT 2 [1,5,6,7] [(7,vi (wr (i3 + r11)))] ?_
    exact oK [1,5,6,7] [(9,9,1),(25,10006,1)] ⟨l2 ++ [i3],wr (i3 + r11),h,rfl⟩
   exact sK [1,5,6,7] [(9,9,1),(10006,10006,1)] ⟨l2,i3,h,rfl⟩
  subst hJ6
  rintro s ⟨l4,i5,h,rfl⟩
  skip
  refine Rgd hT 3 [1,5,6,7] [(7,vi (wr (i5 + 1)))] ?_
  exact oK [1,5,6,7] [(9,9,1),(10006,10006,1)] ⟨_,by omega,by omega,l4,wr (i5 + 1),h,rfl⟩
 refine WA_exit ?_
 refine Qzd hT 2 [4] [(4,vs 10006 1 s_int l2)] ?_
 obtain rfl:=Option.some.inj h
 exact rK [4] [(10006,100,1)] ⟨[(4,vs 100 1 s_int l2)],[(100,rb 1 s_int l2)],2⟩ ⟨by kernel_rfl,by kernel_rfl,rfl⟩
theorem ref22_Guard_ok {n : Nat} {a0 : Prog} {a1 : List ByteArray} {r : Int} (h : ref22_Guard n a0 a1 = some r) : PT Tryz.prog 58 [eProg a0,po s_string a1] (vi r):=by
 unfold ref22_Guard at h
 refine PT_bodyA hT Tryz.func58 rfl (by kernel_rfl) fun bad w=>?_
 refine Qzh hT 2 [1,2] [(2,bx 2 0)] [(2,cb 0 27 2 (eProg a0))] 1 ?_
 refine Qgd hT 1 [1,2,9] [(9,eProg a0)] ?_
 obtain ⟨r1,hr1,h⟩:=bsome h
 refine Og [] [(100,rb 1 s_int r1)] [eProg a0] [eProg a0] [] [(100,10,1)] [(10,rb 1 s_int r1)] (vs 100 1 s_int r1) (vs 10 1 s_int r1) 2 en56 (ref22_Weights_ok hr1) ?_
 refine Szh hT 1 [1,2,5] [(5,vs 10 1 s_int r1)] [(10,rb 1 s_int r1),(2,cb 0 27 2 (eProg a0))] 2 ?_
 refine Qgd hT 2 [5,11,12] [(11,eProg a0),(12,po s_string a1)] ?_
 obtain ⟨r2,hr2,h⟩:=bsome h
 refine Og [] [(100,rb 1 s_int r2)] [eProg a0,po s_string a1] [eProg a0,po s_string a1] [] [(100,13,2)] [(13,rb 2 s_int r2)] (vs 100 1 s_int r2) (vs 13 2 s_int r2) 3 en90 (ref22_Wrapped_ok hr2) ?_
 refine Szh hT 1 [5,6] [(6,vs 13 2 s_int r2)] [(13,rb 2 s_int r2),(10,rb 1 s_int r1),(2,cb 0 27 2 (eProg a0))] 3 ?_
 refine Qzd hT 1 [5,6,7] [(7,vi 0)] ?_
 refine WA_seq ?_
 refine Qzd hT 1 [5,6,7,8] [(8,vi 0)] ?_
 refine WA_block ?_
 refine lK [5,6,7,8] [(10,10,0),(13,13,0)] (fun k s=>∃ q,q ≤ k ∧ q ≤ n ∧ ∃ (i3 : Int),∃ (i4 : Int),ref22_Guard_L0 q a0 a1 r1 r2 i3 i4 = some r ∧ s = ⟨[(5,vs 10 0 s_int r1),(6,vs 13 0 s_int r2),(7,vi i3),(8,vi i4)],[(10,rb 0 s_int r1),(13,rb 0 s_int r2)],1⟩) n ⟨n,Nat.le_refl _,Nat.le_refl _,0,0,h,rfl⟩ (by rintro s ⟨q,hq,_,i3,i4,h,_⟩; obtain rfl:=Nat.le_zero.1 hq; rw [ref22_Guard_L0] at h; cases h) ?_
 clear h
 rintro k1 s ⟨q1,hk1,hn1,i3,i4,h,rfl⟩
 rcases q1 with _ | q1
 ·rw [ref22_Guard_L0] at h; cases h
 rw [ref22_Guard_L0] at h
 refine WA_seq ?_
 refine Qgd hT 2 [5,6,7,8,14,15] [(14,vi i4),(15,vs 13 0 s_int r2)] ?_
 refine One' hT rfl (v_len_own s_int 13 0 true (rb 0 s_int r2) r2) ?_
 refine Szd hT 1 [5,6,7,8,17] [(17,vb (decide (i4 < (ln r2))))] ?_
 refine Ci h (fun h=>?_) fun h=>?_
 ·refine WA_skip ?_
  refine WA_seq ?_
  refine WA_block ?_
  refine Rgd hT 4 [5,6,8,20,21,22,23] [(20,vi i3),(21,vs 10 0 s_int r1),(22,vs 13 0 s_int r2),(23,vi i4)] ?_
  obtain ⟨x5,hx5,h⟩:=bsome h
  refine One' hT rfl (v_index_own s_int 13 0 true (rb 0 s_int r2) r2 .i64 i4 hx5) ?_
  refine Sg hT 0 [5,6,8,20,21,24] ⟨[(5,vs 10 0 s_int r1),(6,vs 13 0 s_int r2),(8,vi i4),(20,vi i3),(21,vs 10 0 s_int r1),(24,.box 13 0 i4.toNat 0)],[(10,rb 0 s_int r1),(13,rb 0 s_int r2)],1⟩ ?_
  refine One' hT rfl (v_load_row s_int 13 0 (rb 0 s_int r2) r2 i4.toNat 0 x5 (vi x5) (idx_some hx5).2) ?_
  refine Sgd hT 0 [5,6,8,20,21,25] [(25,vi x5)] ?_
  obtain ⟨x6,hx6,h⟩:=bsome h
  refine One' hT rfl (v_index_own s_int 10 0 true (rb 0 s_int r1) r1 .i64 x5 hx6) ?_
  refine Sgd hT 0 [5,6,8,20,26] [(26,.box 10 0 x5.toNat 0)] ?_
  refine One' hT rfl (v_load_row s_int 10 0 (rb 0 s_int r1) r1 x5.toNat 0 x6 (vi x6) (idx_some hx6).2) ?_
  refine Szd hT 3 [5,6,7,8] [(7,vi (wr (i3 + (wr (2 * x6)))))] ?_
  refine Rgd hT 3 [5,6,7,8] [(8,vi (wr (i4 + 1)))] ?_
  exact oK [5,6,7,8] [(10,10,0),(13,13,0)] ⟨_,by omega,by omega,wr (i3 + (wr (2 * x6))),wr (i4 + 1),h,rfl⟩
 refine WA_exit ?_
 refine Qzd hT 2 [4] [(4,vi i3)] ?_
 obtain rfl:=Option.some.inj h
 exact rK [4] [] ⟨[(4,vi i3)],[],1⟩ ⟨by kernel_rfl,rfl⟩
theorem ref22_guard_ok {n : Nat} {a0 : Prog} {a1 : List Int} {r : Cand} (h : ref22_guard n a0 a1 = some r) : PT Tryz.prog 30 [eProg a0,po s_int a1] (eCand r):=by
 unfold ref22_guard at h
 refine PT_bodyA hT Tryz.func30 rfl (by kernel_rfl) fun bad w=>?_
 refine Qzh hT 2 [1,2,4] [(2,bx 2 0),(4,bx 4 1)] [(4,cb 1 37 3 (.agg [vb false,vn,vz c0])),(2,cb 0 27 2 (eProg a0))] 2 ?_
 refine WA_seq ?_
 refine WA_drawW hT hM (by kernel_rfl) ?_
 refine Ds 4 [(8,po s_int a1),(7,eProg a0),(6,eProg a0),(5,po s_int a1)] [] [(1,[2]),(2,[2])] ?_
 obtain ⟨r1,hr1,h⟩:=bsome h
 refine Dp [eProg a0,po s_int a1] (po s_string r1) en59 (PT_of_GO (ref22_namesOf_ok hr1)) ?_
 obtain ⟨r2,hr2,h⟩:=bsome h
 refine Dp [eProg a0,po s_string r1] (vi r2) en58 (ref22_Guard_ok hr2) ?_
 obtain ⟨r3,hr3,h⟩:=bsome h
 refine Dp [vi r2,vi 1] (vz r3) en28 (ref22_Cost_ok hr3) ?_
 refine Dh 2 [(12,.agg [vb true,po s_int a1,vz r3])] [(4,cb 1 37 3 (.agg [vb true,po s_int a1,vz r3])),(2,cb 0 27 2 (eProg a0))] 2 [(8,[4])] [] ?_
 refine De ?_
 refine Wk_done ?_
 refine aW [4] ⟨[(4,bx 4 1)],[(4,cb 1 37 3 (.agg [vb true,po s_int a1,vz r3])),(2,cb 0 27 2 (eProg a0))],2⟩ ?_
 refine WA_weak (wL [(4,bx 4 1)] [(4,cb 1 37 3 (eCand (Cand.mk true a1 r3))),(2,cb 0 27 2 (eProg a0))] ⟨VLf.refl _,trivial⟩ ⟨rfl,.inr (.inl ⟨rfl,rfl,CLe.agg ⟨VLf.refl _,VLf.refl _,VLf.refl _,trivial⟩,trivial⟩),rfl,.inl rfl,trivial⟩) ?_
 obtain rfl:=Option.some.inj h
 exact rR [(4,1000,0)] ⟨[(4,bx 1000 0)],[(1000,cb 0 37 3 (eCand (Cand.mk true a1 r3)))],1⟩ ⟨by kernel_rfl,rfl⟩
theorem ref22_guard_o_ok {n : Nat} {a0 : Prog} {a1 : List Int} {r : Cand} (h : ref22_guard_o n a0 a1 = some r) : GO Tryz.prog 30 [(0,rb 0 s_int a1)] [eProg a0,vs 0 0 s_int a1] (eCand r) []:=by
 unfold ref22_guard_o at h
 refine GO_bodyA hT Tryz.func30 rfl [1000] (by kernel_rfl) fun bad w m=>?_
 refine Qzh hT 2 [1,2,4] [(2,bx 2 1),(4,bx 4 2)] [(4,cb 2 37 3 (.agg [vb false,vn,vz c0])),(2,cb 1 27 2 (eProg a0)),(0,rb 0 s_int a1)] 3 ?_
 refine WA_seq ?_
 refine WA_weak (wF 0 0 (rb 0 s_int a1) [(1,po s_int a1),(2,bx 2 1),(4,bx 4 2)] [(4,cb 2 37 3 (.agg [vb false,vn,vz c0])),(2,cb 1 27 2 (eProg a0))] ⟨rfl,.hit true,rfl,.keep _,rfl,.keep _,trivial⟩ ⟨rfl,.inl rfl,rfl,.inl rfl,trivial⟩) ?_
 refine WA_drawW hT hM (by kernel_rfl) ?_
 refine Ds 4 [(8,po s_int a1),(7,eProg a0),(6,eProg a0),(5,po s_int a1)] [] [(1,[2]),(2,[2])] ?_
 obtain ⟨r1,hr1,h⟩:=bsome h
 refine Dp [eProg a0,po s_int a1] (po s_string r1) en59 (PT_of_GO (ref22_namesOf_ok hr1)) ?_
 obtain ⟨r2,hr2,h⟩:=bsome h
 refine Dp [eProg a0,po s_string r1] (vi r2) en58 (ref22_Guard_ok hr2) ?_
 obtain ⟨r3,hr3,h⟩:=bsome h
 refine Dp [vi r2,vi 1] (vz r3) en28 (ref22_Cost_ok hr3) ?_
 refine Dh 2 [(12,.agg [vb true,po s_int a1,vz r3])] [(4,cb 2 37 3 (.agg [vb true,po s_int a1,vz r3])),(2,cb 1 27 2 (eProg a0))] 3 [(8,[4])] [] ?_
 refine De ?_
 refine Wk_done ?_
 refine aW [4] ⟨[(4,bx 4 2)],[(4,cb 2 37 3 (.agg [vb true,po s_int a1,vz r3])),(2,cb 1 27 2 (eProg a0))],3⟩ ?_
 refine WA_weak (wL [(4,bx 4 2)] [(4,cb 2 37 3 (eCand (Cand.mk true a1 r3))),(2,cb 1 27 2 (eProg a0))] ⟨VLf.refl _,trivial⟩ ⟨rfl,.inr (.inl ⟨rfl,rfl,CLe.agg ⟨VLf.refl _,VLf.refl _,VLf.refl _,trivial⟩,trivial⟩),rfl,.inl rfl,trivial⟩) ?_
 obtain rfl:=Option.some.inj h
 exact rR [(4,1000,1)] ⟨[(4,bx 1000 1)],[(1000,cb 1 37 3 (eCand (Cand.mk true a1 r3)))],2⟩ ⟨by kernel_rfl,by kernel_rfl,rfl⟩
theorem ref22_Cands_ok {n : Nat} {a0 : Prog} {a1 : List Int} {r : List Cand} (h : ref22_Cands n a0 a1 = some r) : GO Tryz.prog 9 [] [eProg a0,po s_int a1] (vs 100 1 s_Cand r) [(100,rb 1 s_Cand r)]:=by
 unfold ref22_Cands at h
 refine GO_bodyA hT Tryz.func9 rfl [] (by kernel_rfl) fun bad w m=>?_
 refine Qzh hT 2 [1,2] [(2,bx 2 1)] [(2,cb 1 27 2 (eProg a0))] 2 ?_
 refine Qzd hT 1 [1,2,5] [(5,vn)] ?_
 refine Qzd hT 1 [1,2,5,6] [(6,vi 0)] ?_
 refine WA_seq ?_
 refine Qzd hT 1 [1,2,5,6,7] [(7,vi 0)] ?_
 refine WA_block ?_
 refine lK [1,2,5,6,7] [(2,2,1)] (fun k s=>∃ q,q ≤ k ∧ q ≤ n ∧ ∃ (i1 : Int),∃ (i2 : Int),ref22_Cands_L0 q a0 a1 i1 i2 = some r ∧ s = ⟨[(1,po s_int a1),(2,bx 2 1),(5,vn),(6,vi i1),(7,vi i2)],[(2,cb 1 27 2 (eProg a0))],2⟩) n ⟨n,Nat.le_refl _,Nat.le_refl _,0,0,h,rfl⟩ (by rintro s ⟨q,hq,_,i1,i2,h,_⟩; obtain rfl:=Nat.le_zero.1 hq; rw [ref22_Cands_L0] at h; cases h) ?_
 clear h
 rintro k1 s ⟨q1,hk1,hn1,i1,i2,h,rfl⟩
 rcases q1 with _ | q1
 ·rw [ref22_Cands_L0] at h; cases h
 rw [ref22_Cands_L0] at h
 refine WA_seq ?_
 refine Qgd hT 2 [1,2,5,6,7,13,14] [(13,vi i2),(14,po s_int a1)] ?_
 refine One' hT rfl (v_len s_int .opt a1) ?_
 refine Szd hT 1 [1,2,5,6,7,16] [(16,vb (decide (i2 < (ln a1))))] ?_
 refine Ci h (fun h=>?_) fun h=>?_
 ·refine WA_skip ?_
  refine WA_seq ?_
  obtain ⟨J4,hJ4,h⟩:=jsome h
  refine WA_join (fun s=>∃ (i3 : Int),J4 i3 = some r ∧ s = ⟨[(1,po s_int a1),(2,bx 2 1),(5,vn),(6,vi i3),(7,vi i2)],[(2,cb 1 27 2 (eProg a0))],2⟩) ?_ ?_
  ·refine WA_block ?_
   refine WA_seq ?_
   refine WA_drawW hT hM (by kernel_rfl) ?_
   refine Ds 4 [(22,vi i2),(21,po s_int a1),(20,po s_Decl a0.Decls),(19,bx 2 1)] [] [(0,[2]),(1,[2])] ?_
   obtain ⟨x5,hx5,h⟩:=bsome h
   refine Dl rfl (v_index s_int .opt a1 .i64 i2 hx5) ?_
   refine Dt (.ref (e_i64 x5) 0) ?_
   refine Ds 1 [(24,vi x5)] [] [] ?_
   obtain ⟨x6,hx6,h⟩:=bsome h
   refine Dl rfl (v_index s_Decl .opt a0.Decls .i64 x5 hx6) ?_
   refine Dt (.ref (eDecl x6) 0) ?_
   refine Ds 3 [(28,vb (x6.Kind == 1)),(27,vi x6.Kind),(26,.ref (eDecl x6) 0)] [] [] ?_
   refine De ?_
   refine Wk_done ?_
   refine Ci h (fun h=>?_) fun h=>?_
   ·refine Rg hT 3 [1,2,5,6,7] ⟨[(1,po s_int a1),(2,bx 2 1),(5,vn),(6,vi (wr (i1 + 1))),(7,vi i2)],[(2,cb 1 27 2 (eProg a0))],2⟩ ?_
    exact oK [1,2,5,6,7] [(2,2,1)] ⟨wr (i1 + 1),h,rfl⟩
   exact sK [1,2,5,6,7] [(2,2,1)] ⟨i1,h,rfl⟩
  subst hJ4
  rintro s ⟨i3,h,rfl⟩
  skip
  refine Rgd hT 3 [1,2,5,6,7] [(7,vi (wr (i2 + 1)))] ?_
  exact oK [1,2,5,6,7] [(2,2,1)] ⟨_,by omega,by omega,i3,wr (i2 + 1),h,rfl⟩
 refine WA_exit ?_
 refine WA_seq ?_
 refine Qzd hT 1 [1,2,5,6,8] [(8,vi 0)] ?_
 refine WA_block ?_
 refine aW [1,2,5,6,8] ⟨[(1,po s_int a1),(2,bx 2 1),(5,vn),(6,vi i1),(8,vi 0)],[(2,cb 1 27 2 (eProg a0))],2⟩ ?_
 refine WA_weak (wO 5 5000 37 3) ?_
 refine lK [1,2,5,6,8] [(2,2,1),(5000,10005,1)] (fun k s=>∃ q,q ≤ k ∧ q ≤ q1 ∧ ∃ (l7 : List Cand),∃ (i8 : Int),ref22_Cands_L1 q a0 a1 i1 i2 l7 i8 = some r ∧ s = ⟨[(1,po s_int a1),(2,bx 2 1),(5,vs 10005 1 s_Cand l7),(6,vi i1),(8,vi i8)],[(2,cb 1 27 2 (eProg a0)),(10005,rb 1 s_Cand l7)],2⟩) q1 ⟨q1,Nat.le_refl _,Nat.le_refl _,([] : List Cand),0,h,rfl⟩ (by rintro s ⟨q,hq,_,l7,i8,h,_⟩; obtain rfl:=Nat.le_zero.1 hq; rw [ref22_Cands_L1] at h; cases h) ?_
 clear h
 rintro k2 s ⟨q2,hk2,hn2,l7,i8,h,rfl⟩
 rcases q2 with _ | q2
 ·rw [ref22_Cands_L1] at h; cases h
 rw [ref22_Cands_L1] at h
 refine WA_seq ?_
 refine Qg hT 2 [1,2,5,6,8,31,32] ⟨[(1,po s_int a1),(2,bx 2 1),(5,vs 10005 1 s_Cand l7),(6,vi i1),(8,vi i8),(31,vi i8),(32,po s_int a1)],[(2,cb 1 27 2 (eProg a0)),(10005,rb 1 s_Cand l7)],2⟩ ?_
 refine One' hT rfl (v_len s_int .opt a1) ?_
 refine Szd hT 1 [1,2,5,6,8,34] [(34,vb (decide (i8 < (ln a1))))] ?_
 refine Ci h (fun h=>?_) fun h=>?_
 ·refine WA_skip ?_
  refine WA_seq ?_
  obtain ⟨J10,hJ10,h⟩:=jsome h
  refine WA_join (fun s=>∃ (l9 : List Cand),J10 l9 = some r ∧ s = ⟨[(1,po s_int a1),(2,bx 2 1),(5,vs 10005 1 s_Cand l9),(6,vi i1),(8,vi i8)],[(2,cb 1 27 2 (eProg a0)),(10005,rb 1 s_Cand l9)],2⟩) ?_ ?_
  ·refine WA_block ?_
   refine WA_seq ?_
   obtain ⟨J12,hJ12,h⟩:=jsome h
   refine WA_join (fun s=>∃ (b11 : Bool),J12 b11 = some r ∧ s = ⟨[(1,po s_int a1),(2,bx 2 1),(5,vs 10005 1 s_Cand l7),(6,vi i1),(8,vi i8),(57,vb b11)],[(2,cb 1 27 2 (eProg a0)),(10005,rb 1 s_Cand l7)],2⟩) ?_ ?_
   ·refine WA_drawW hT hM (by kernel_rfl) ?_
    refine Ds 4 [(40,vi i8),(39,po s_int a1),(38,po s_Decl a0.Decls),(37,bx 2 1)] [] [(0,[2]),(1,[2])] ?_
    obtain ⟨x13,hx13,h⟩:=bsome h
    refine Dl rfl (v_index s_int .opt a1 .i64 i8 hx13) ?_
    refine Dt (.ref (e_i64 x13) 0) ?_
    refine Ds 1 [(42,vi x13)] [] [] ?_
    obtain ⟨x14,hx14,h⟩:=bsome h
    refine Dl rfl (v_index s_Decl .opt a0.Decls .i64 x13 hx14) ?_
    refine Dt (.ref (eDecl x14) 0) ?_
    refine Ds 4 [(47,vb (x14.Kind == 1)),(46,vb (x14.Kind == 1)),(45,vi x14.Kind),(44,.ref (eDecl x14) 0)] [] [] ?_
    cases hb : ((x14.Kind == 1) : Bool)
    ·replace h:=cfalse hb h
     refine Ds 10 [(57,vb false),(56,vU),(55,vU),(54,vU),(53,vU),(52,vU),(51,vU),(50,vU),(49,vU),(48,vU)] [] [] ?_
     refine De ?_
     exact wK [1,2,5,6,8,57] [(2,2,1),(10005,10005,1)] ⟨false,h,rfl⟩
    replace h:=ctrue hb h
    refine Ds 1 [(48,po s_int a1)] [] [] ?_
    refine Dl rfl (v_len s_int .opt a1) ?_
    refine Dt (vi (ln a1)) ?_
    refine Ds 2 [(51,vb (decide ((ln a1) ≤ 8))),(50,vb (decide ((ln a1) ≤ 8)))] [] [] ?_
    cases hb : (decide ((ln a1) ≤ 8) : Bool)
    ·replace h:=cfalse hb h
     refine Ds 2 [(53,po s_int a1),(52,vi i1)] [] [] ?_
     refine Dl rfl (v_len s_int .opt a1) ?_
     refine Dt (vi (ln a1)) ?_
     refine Ds 3 [(57,vb (i1 == (ln a1))),(56,vb (i1 == (ln a1))),(55,vb (i1 == (ln a1)))] [] [] ?_
     refine De ?_
     exact wK [1,2,5,6,8,57] [(2,2,1),(10005,10005,1)] ⟨(i1 == (ln a1)),h,rfl⟩
    replace h:=ctrue hb h
    refine Ds 6 [(57,vb true),(56,vb true),(55,vU),(54,vU),(53,vU),(52,vU)] [] [] ?_
    refine De ?_
    exact wK [1,2,5,6,8,57] [(2,2,1),(10005,10005,1)] ⟨true,h,rfl⟩
   subst hJ12
   rintro s ⟨b11,h,rfl⟩
   skip
   refine Ci h (fun h=>?_) fun h=>?_
   ·refine WA_drawW hT hM (by kernel_rfl) ?_
    refine Ds 3 [(60,vi i8),(59,po s_int a1),(58,vs 10005 1 s_Cand l7)] [] [] ?_
    obtain ⟨x15,hx15,h⟩:=bsome h
    refine Dl rfl (v_index s_int .opt a1 .i64 i8 hx15) ?_
    refine Dt (.ref (e_i64 x15) 0) ?_
    refine Ds 7 [(68,vi i8),(67,po s_int a1),(66,po s_Decl a0.Decls),(65,bx 2 1),(64,eProg a0),(63,.ps .full (s_int.F [x15])),(62,vi x15)] [] [(6,[2]),(7,[2]),(8,[2])] ?_
    obtain ⟨x16,hx16,h⟩:=bsome h
    refine Dl rfl (v_index s_int .opt a1 .i64 i8 hx16) ?_
    refine Dt (.ref (e_i64 x16) 0) ?_
    refine Ds 1 [(70,vi x16)] [] [] ?_
    obtain ⟨x17,hx17,h⟩:=bsome h
    refine Dl rfl (v_index s_Decl .opt a0.Decls .i64 x16 hx17) ?_
    refine Dt (.ref (eDecl x17) 0) ?_
    refine Ds 2 [(73,vw x17.Name),(72,.ref (eDecl x17) 1)] [] [] ?_
    obtain ⟨r18,hr18,h⟩:=bsome h
    refine Dp [eProg a0,vw x17.Name] (vi r18) en29 (ref22_Upgrade_ok hr18) ?_
    obtain ⟨r19,hr19,h⟩:=bsome h
    refine Dp [vi r18,vi 1] (vz r19) en28 (ref22_Cost_ok hr19) ?_
    refine Ds 2 [(77,.ps .full (s_Cand.F [(Cand.mk false [x15] r19)])),(76,.agg [vb false,.ps .full (s_int.F [x15]),vz r19])] [] [] ?_
    obtain ⟨g20,h⟩:=gsome h
    refine Dw rfl (ev_append s_Cand 10005 1 true l7 [(Cand.mk false [x15] r19)] (by kernel_rfl) (by kernel_rfl) (by kernel_rfl) (by simp) g20) ?_
    refine Dh 1 [(5,vs 78 2 s_Cand (l7 ++ [(Cand.mk false [x15] r19)]))] [(78,⟨2,37,3,false,false,s_Cand.F (l7 ++ [(Cand.mk false [x15] r19)])⟩),(2,cb 1 27 2 (eProg a0))] 3 [] [] ?_
    refine De ?_
    refine kW [1,2,5,6,8] ⟨[(1,po s_int a1),(2,bx 2 1),(5,vs 78 2 s_Cand (l7 ++ [(Cand.mk false [x15] r19)])),(6,vi i1),(8,vi i8)],[(78,⟨2,37,3,false,false,s_Cand.F (l7 ++ [(Cand.mk false [x15] r19)])⟩),(2,cb 1 27 2 (eProg a0))],3⟩ ?_
    refine Wk_step (wL [(1,po s_int a1),(2,bx 2 1),(5,vs 78 2 s_Cand (l7 ++ [(Cand.mk false [x15] r19)])),(6,vi i1),(8,vi i8)] [(78,rb 2 s_Cand (l7 ++ [(Cand.mk false [x15] r19)])),(2,cb 1 27 2 (eProg a0))] ⟨VLf.refl _,VLf.refl _,VLf.refl _,VLf.refl _,VLf.refl _,trivial⟩ ⟨rfl,.inr (.inr rfl),rfl,.inl rfl,trivial⟩) ?_
    exact wR [(2,2,1),(78,10005,1)] ⟨l7 ++ [(Cand.mk false [x15] r19)],h,rfl⟩
   exact sK [1,2,5,6,8] [(2,2,1),(10005,10005,1)] ⟨l7,h,rfl⟩
  subst hJ10
  rintro s ⟨l9,h,rfl⟩
  skip
  refine Rgd hT 3 [1,2,5,6,8] [(8,vi (wr (i8 + 1)))] ?_
  exact oK [1,2,5,6,8] [(2,2,1),(10005,10005,1)] ⟨_,by omega,by omega,l9,wr (i8 + 1),h,rfl⟩
 refine WA_exit ?_
 refine WA_seq ?_
 refine Qgd hT 1 [1,2,5,79] [(79,po s_int a1)] ?_
 refine One' hT rfl (v_len s_int .opt a1) ?_
 refine Szd hT 1 [1,2,5,81] [(81,vb (decide ((ln a1) > 4)))] ?_
 refine Ci h (fun h=>?_) fun h=>?_
 ·refine WA_seq ?_
  refine Qzd hT 1 [1,2,5,9] [(9,vi 0)] ?_
  refine WA_block ?_
  refine lK [1,2,5,9] [(2,2,1),(10005,10005,1)] (fun k s=>∃ q,q ≤ k ∧ q ≤ q2 ∧ ∃ (l21 : List Cand),∃ (i22 : Int),ref22_Cands_L2 q a0 a1 i1 i2 l7 i8 l21 i22 = some r ∧ s = ⟨[(1,po s_int a1),(2,bx 2 1),(5,vs 10005 1 s_Cand l21),(9,vi i22)],[(2,cb 1 27 2 (eProg a0)),(10005,rb 1 s_Cand l21)],2⟩) q2 ⟨q2,Nat.le_refl _,Nat.le_refl _,l7,0,h,rfl⟩ (by rintro s ⟨q,hq,_,l21,i22,h,_⟩; obtain rfl:=Nat.le_zero.1 hq; rw [ref22_Cands_L2] at h; cases h) ?_
  clear h
  rintro k3 s ⟨q3,hk3,hn3,l21,i22,h,rfl⟩
  rcases q3 with _ | q3
  ·rw [ref22_Cands_L2] at h; cases h
  rw [ref22_Cands_L2] at h
  refine WA_seq ?_
  refine WA_seq ?_
  obtain ⟨J24,hJ24,h⟩:=jsome h
  refine WA_join (fun s=>∃ (b23 : Bool),J24 b23 = some r ∧ s = ⟨[(1,po s_int a1),(2,bx 2 1),(5,vs 10005 1 s_Cand l21),(9,vi i22),(90,vb b23)],[(2,cb 1 27 2 (eProg a0)),(10005,rb 1 s_Cand l21)],2⟩) ?_ ?_
  ·refine Rgd hT 2 [1,2,5,9,82,83] [(82,vi i22),(83,po s_int a1)] ?_
   refine One' hT rfl (v_len s_int .opt a1) ?_
   refine Sgd hT 2 [1,2,5,9,86] [(86,vb (decide (i22 < (ln a1))))] ?_
   cases hb : (decide (i22 < (ln a1)) : Bool)
   ·replace h:=cfalse hb h
    refine Sgd hT 4 [1,2,5,9,90] [(90,vb false)] ?_
    exact oK [1,2,5,9,90] [(2,2,1),(10005,10005,1)] ⟨false,h,rfl⟩
   replace h:=ctrue hb h
   refine Sg hT 1 [1,2,5,9,86,87] ⟨[(1,po s_int a1),(2,bx 2 1),(5,vs 10005 1 s_Cand l21),(9,vi i22),(86,vb true),(87,po s_int a1)],[(2,cb 1 27 2 (eProg a0)),(10005,rb 1 s_Cand l21)],2⟩ ?_
   refine One' hT rfl (v_len s_int .opt a1) ?_
   refine Sgd hT 2 [1,2,5,9,90] [(90,vb (decide ((ln a1) ≤ 8)))] ?_
   exact oK [1,2,5,9,90] [(2,2,1),(10005,10005,1)] ⟨decide ((ln a1) ≤ 8),h,rfl⟩
  subst hJ24
  rintro s ⟨b23,h,rfl⟩
  skip
  refine Ci h (fun h=>?_) fun h=>?_
  ·refine WA_skip ?_
   refine WA_seq ?_
   refine WA_block ?_
   refine WA_drawW hT hM (by kernel_rfl) ?_
   refine Ds 4 [(96,vi i22),(95,po s_int a1),(94,eProg a0),(93,vs 10005 1 s_Cand l21)] [] [(1,[2])] ?_
   obtain ⟨x25,hx25,h⟩:=bsome h
   refine Dl rfl (v_index s_int .opt a1 .i64 i22 hx25) ?_
   refine Dt (.ref (e_i64 x25) 0) ?_
   refine Ds 2 [(99,.ps .full (s_int.F [x25])),(98,vi x25)] [] [] ?_
   obtain ⟨r26,hr26,h⟩:=bsome h
   refine Dp [eProg a0,.ps .full (s_int.F [x25])] (eCand r26) en30 (PT_args ((ref22_guard_ok hr26)) ⟨VLe.refl _,VLe.full_opt,trivial⟩) ?_
   refine Ds 1 [(101,.ps .full (s_Cand.F [r26]))] [] [] ?_
   obtain ⟨g27,h⟩:=gsome h
   refine Dw rfl (ev_append s_Cand 10005 1 true l21 [r26] (by kernel_rfl) (by kernel_rfl) (by kernel_rfl) (by simp) g27) ?_
   refine Dh 1 [(5,vs 102 2 s_Cand (l21 ++ [r26]))] [(102,⟨2,37,3,false,false,s_Cand.F (l21 ++ [r26])⟩),(2,cb 1 27 2 (eProg a0))] 3 [] [] ?_
   refine De ?_
   refine Wk_done ?_
   refine Rgd hT 3 [1,2,5,9] [(9,vi (wr (i22 + 1)))] ?_
   refine oW [1,2,5,9] ⟨[(1,po s_int a1),(2,bx 2 1),(5,vs 102 2 s_Cand (l21 ++ [r26])),(9,vi (wr (i22 + 1)))],[(102,⟨2,37,3,false,false,s_Cand.F (l21 ++ [r26])⟩),(2,cb 1 27 2 (eProg a0))],3⟩ ?_
   refine WO_weak (wL [(1,po s_int a1),(2,bx 2 1),(5,vs 102 2 s_Cand (l21 ++ [r26])),(9,vi (wr (i22 + 1)))] [(102,rb 2 s_Cand (l21 ++ [r26])),(2,cb 1 27 2 (eProg a0))] ⟨VLf.refl _,VLf.refl _,VLf.refl _,VLf.refl _,trivial⟩ ⟨rfl,.inr (.inr rfl),rfl,.inl rfl,trivial⟩) ?_
   exact oR [(2,2,1),(102,10005,1)] ⟨_,by omega,by omega,l21 ++ [r26],wr (i22 + 1),h,rfl⟩
  refine WA_exit ?_
  refine WA_seq ?_
  refine WA_drawW hT hM (by kernel_rfl) ?_
  refine Ds 4 [(106,po s_int a1),(105,.ps .full (s_int.F ([] : List Int))),(104,eProg a0),(103,vs 10005 1 s_Cand l21)] [] [(1,[2])] ?_
  obtain ⟨g28,h⟩:=gsome h
  by_cases hne : a1 = []
  ·refine Dw rfl (ev_appendF0 s_int .full ([] : List Int) a1 (by decide) (by kernel_rfl) (by kernel_rfl) hne) ?_
   obtain ⟨r29,hr29,h⟩:=bsome h
   refine Dp [eProg a0,.ps .full (s_int.F (([] : List Int) ++ a1))] (eCand r29) en30 (PT_args ((ref22_guard_ok hr29)) ⟨VLe.refl _,VLe.full_opt,trivial⟩) ?_
   refine Ds 1 [(109,.ps .full (s_Cand.F [r29]))] [] [] ?_
   obtain ⟨g30,h⟩:=gsome h
   refine Dw rfl (ev_append s_Cand 10005 1 true l21 [r29] (by kernel_rfl) (by kernel_rfl) (by kernel_rfl) (by simp) g30) ?_
   refine Dh 1 [(4,vs 110 2 s_Cand (l21 ++ [r29]))] [(110,⟨2,37,3,false,false,s_Cand.F (l21 ++ [r29])⟩),(2,cb 1 27 2 (eProg a0))] 3 [] [] ?_
   refine De ?_
   refine Wk_done ?_
   refine aW [4] ⟨[(4,vs 110 2 s_Cand (l21 ++ [r29]))],[(110,⟨2,37,3,false,false,s_Cand.F (l21 ++ [r29])⟩),(2,cb 1 27 2 (eProg a0))],3⟩ ?_
   refine WA_weak (wL [(4,vs 110 2 s_Cand (l21 ++ [r29]))] [(110,rb 2 s_Cand (l21 ++ [r29])),(2,cb 1 27 2 (eProg a0))] ⟨VLf.refl _,trivial⟩ ⟨rfl,.inr (.inr rfl),rfl,.inl rfl,trivial⟩) ?_
   obtain rfl:=Option.some.inj h
   exact rR [(110,100,1)] ⟨[(4,vs 100 1 s_Cand (l21 ++ [r29]))],[(100,rb 1 s_Cand (l21 ++ [r29]))],2⟩ ⟨by kernel_rfl,by kernel_rfl,rfl⟩
  ·refine Dw rfl (ev_appendF s_int .full ([] : List Int) a1 (by decide) (by kernel_rfl) (by kernel_rfl) hne g28) ?_
   obtain ⟨r29,hr29,h⟩:=bsome h
   refine Dg [(0,⟨0,3,1,false,false,s_int.F (([] : List Int) ++ a1)⟩)] [] [eProg a0,vs 107 2 s_int (([] : List Int) ++ a1)] [eProg a0,vs 0 0 s_int (([] : List Int) ++ a1)] [(107,0,0)] [] [] (eCand r29) (eCand r29) 4 en30 (GO_leH (hA:=[(0,rb 0 s_int (([] : List Int) ++ a1))]) ⟨rfl,.inr (.inr rfl),trivial⟩ (ref22_guard_o_ok hr29)) ?_
   refine Dh 1 [(109,.ps .full (s_Cand.F [r29]))] [(2,cb 1 27 2 (eProg a0)),(10005,rb 1 s_Cand l21)] 4 [] [] ?_
   obtain ⟨g30,h⟩:=gsome h
   refine Dw rfl (ev_append s_Cand 10005 1 true l21 [r29] (by kernel_rfl) (by kernel_rfl) (by kernel_rfl) (by simp) g30) ?_
   refine Dh 1 [(4,vs 110 4 s_Cand (l21 ++ [r29]))] [(110,⟨4,37,3,false,false,s_Cand.F (l21 ++ [r29])⟩),(2,cb 1 27 2 (eProg a0))] 5 [] [] ?_
   refine De ?_
   refine Wk_done ?_
   refine aW [4] ⟨[(4,vs 110 4 s_Cand (l21 ++ [r29]))],[(110,⟨4,37,3,false,false,s_Cand.F (l21 ++ [r29])⟩),(2,cb 1 27 2 (eProg a0))],5⟩ ?_
   refine WA_weak (wL [(4,vs 110 4 s_Cand (l21 ++ [r29]))] [(110,rb 4 s_Cand (l21 ++ [r29])),(2,cb 1 27 2 (eProg a0))] ⟨VLf.refl _,trivial⟩ ⟨rfl,.inr (.inr rfl),rfl,.inl rfl,trivial⟩) ?_
   obtain rfl:=Option.some.inj h
   exact rR [(110,100,1)] ⟨[(4,vs 100 1 s_Cand (l21 ++ [r29]))],[(100,rb 1 s_Cand (l21 ++ [r29]))],2⟩ ⟨by kernel_rfl,by kernel_rfl,rfl⟩
 refine WA_skip ?_
 refine WA_seq ?_
 refine Qzd hT 1 [1,2,5,10] [(10,vi 1)] ?_
 refine WA_block ?_
 refine lK [1,2,5,10] [(2,2,1),(10005,10005,1)] (fun k s=>∃ q,q ≤ k ∧ q ≤ q2 ∧ ∃ (l31 : List Cand),∃ (i32 : Int),ref22_Cands_L3 q a0 a1 i1 i2 l7 i8 l31 i32 = some r ∧ s = ⟨[(1,po s_int a1),(2,bx 2 1),(5,vs 10005 1 s_Cand l31),(10,vi i32)],[(2,cb 1 27 2 (eProg a0)),(10005,rb 1 s_Cand l31)],2⟩) q2 ⟨q2,Nat.le_refl _,Nat.le_refl _,l7,1,h,rfl⟩ (by rintro s ⟨q,hq,_,l31,i32,h,_⟩; obtain rfl:=Nat.le_zero.1 hq; rw [ref22_Cands_L3] at h; cases h) ?_
 clear h
 rintro k3 s ⟨q3,hk3,hn3,l31,i32,h,rfl⟩
 rcases q3 with _ | q3
 ·rw [ref22_Cands_L3] at h; cases h
 rw [ref22_Cands_L3] at h
 refine WA_seq ?_
 refine Qgd hT 2 [1,2,5,10,111,112] [(111,vi i32),(112,po s_int a1)] ?_
 refine One' hT rfl (v_len s_int .opt a1) ?_
 refine Sgd hT 1 [1,2,5,10,111,114] [(114,.p (.int .u64 (IntKind.u64.wrap (ln a1))))] ?_
 obtain ⟨x33,hx33,h⟩:=bsome h
 refine One' hT rfl (ev_shl .i64 .u64 1 (IntKind.u64.wrap (ln a1)) hx33 (by kernel_rfl) (by kernel_rfl)) ?_
 refine Szd hT 1 [1,2,5,10,116] [(116,vb (decide (i32 < x33)))] ?_
 refine Ci h (fun h=>?_) fun h=>?_
 ·refine WA_skip ?_
  refine WA_seq ?_
  refine WA_block ?_
  refine Qzd hT 1 [1,2,5,10,11] [(11,vn)] ?_
  refine WA_seq ?_
  refine Qzd hT 1 [1,2,5,10,11,12] [(12,vi 0)] ?_
  refine WA_block ?_
  refine aW [1,2,5,10,11,12] ⟨[(1,po s_int a1),(2,bx 2 1),(5,vs 10005 1 s_Cand l31),(10,vi i32),(11,vn),(12,vi 0)],[(2,cb 1 27 2 (eProg a0)),(10005,rb 1 s_Cand l31)],2⟩ ?_
  refine WA_weak (wO 11 5000 3 1) ?_
  refine lK [1,2,5,10,11,12] [(2,2,1),(10005,10005,1),(5000,10011,1)] (fun k s=>∃ q,q ≤ k ∧ q ≤ q3 ∧ ∃ (l34 : List Int),∃ (i35 : Int),ref22_Cands_L4 q a0 a1 i1 i2 l7 i8 l31 i32 x33 l34 i35 = some r ∧ s = ⟨[(1,po s_int a1),(2,bx 2 1),(5,vs 10005 1 s_Cand l31),(10,vi i32),(11,vs 10011 1 s_int l34),(12,vi i35)],[(2,cb 1 27 2 (eProg a0)),(10005,rb 1 s_Cand l31),(10011,rb 1 s_int l34)],2⟩) q3 ⟨q3,Nat.le_refl _,Nat.le_refl _,([] : List Int),0,h,rfl⟩ (by rintro s ⟨q,hq,_,l34,i35,h,_⟩; obtain rfl:=Nat.le_zero.1 hq; rw [ref22_Cands_L4] at h; cases h) ?_
  clear h
  rintro k4 s ⟨q4,hk4,hn4,l34,i35,h,rfl⟩
  rcases q4 with _ | q4
  ·rw [ref22_Cands_L4] at h; cases h
  rw [ref22_Cands_L4] at h
  refine WA_seq ?_
  refine Qgd hT 2 [1,2,5,10,11,12,119,120] [(119,vi i35),(120,po s_int a1)] ?_
  refine One' hT rfl (v_len s_int .opt a1) ?_
  refine Szd hT 1 [1,2,5,10,11,12,122] [(122,vb (decide (i35 < (ln a1))))] ?_
  refine Ci h (fun h=>?_) fun h=>?_
  ·refine WA_skip ?_
   refine WA_seq ?_
   obtain ⟨J37,hJ37,h⟩:=jsome h
   refine WA_join (fun s=>∃ (l36 : List Int),J37 l36 = some r ∧ s = ⟨[(1,po s_int a1),(2,bx 2 1),(5,vs 10005 1 s_Cand l31),(10,vi i32),(11,vs 10011 1 s_int l36),(12,vi i35)],[(2,cb 1 27 2 (eProg a0)),(10005,rb 1 s_Cand l31),(10011,rb 1 s_int l36)],2⟩) ?_ ?_
   ·refine WA_block ?_
    refine Qgd hT 3 [1,2,5,10,11,12,125,127] [(125,vi i32),(127,.p (.int .u64 (IntKind.u64.wrap i35)))] ?_
    obtain ⟨x38,hx38,h⟩:=bsome h
    refine One' hT rfl (ev_shl .i64 .u64 1 (IntKind.u64.wrap i35) hx38 (by kernel_rfl) (by kernel_rfl)) ?_
    refine Sgd hT 0 [1,2,5,10,11,12,125,128] [(128,vi x38)] ?_
    obtain ⟨g39,h⟩:=g0some h
    refine One' hT rfl (ev_quo .i64 i32 x38 g39 (by kernel_rfl) (by kernel_rfl)) ?_
    refine Szd hT 2 [1,2,5,10,11,12,131] [(131,vb (((wr (i32.tdiv x38)).tmod 2) == 1))] ?_
    refine Ci h (fun h=>?_) fun h=>?_
    ·refine Rgd hT 3 [1,2,5,10,12,132,133,134] [(132,vs 10011 1 s_int l34),(133,po s_int a1),(134,vi i35)] ?_
     obtain ⟨x40,hx40,h⟩:=bsome h
     refine One' hT rfl (v_index s_int .opt a1 .i64 i35 hx40) ?_
     refine Sgh hT 2 [1,2,5,10,12,132,137] [(137,vs 137 2 s_int [x40])] [(137,⟨2,3,1,false,false,s_int.F [x40]⟩),(2,cb 1 27 2 (eProg a0)),(10005,rb 1 s_Cand l31),(10011,rb 1 s_int l34)] 3 ?_
     obtain ⟨g41,h⟩:=gsome h
     refine Oa hT s_int 10011 1 true l34 [x40] (eO s_int 137 2 true ⟨2,3,1,false,false,s_int.F [x40]⟩ [x40]) g41 ?_
     refine Sgh hT 1 [1,2,5,10,11,12] [(11,vs 138 3 s_int (l34 ++ [x40]))] [(138,rb 3 s_int (l34 ++ [x40])),(137,⟨2,3,1,false,false,s_int.F [x40]⟩),(2,cb 1 27 2 (eProg a0)),(10005,rb 1 s_Cand l31)] 4 ?_
     exact oK [1,2,5,10,11,12] [(2,2,1),(10005,10005,1),(138,10011,1)] ⟨l34 ++ [x40],h,rfl⟩
    exact sK [1,2,5,10,11,12] [(2,2,1),(10005,10005,1),(10011,10011,1)] ⟨l34,h,rfl⟩
   subst hJ37
   rintro s ⟨l36,h,rfl⟩
   skip
   refine Rgd hT 3 [1,2,5,10,11,12] [(12,vi (wr (i35 + 1)))] ?_
   exact oK [1,2,5,10,11,12] [(2,2,1),(10005,10005,1),(10011,10011,1)] ⟨_,by omega,by omega,l36,wr (i35 + 1),h,rfl⟩
  refine WA_exit ?_
  refine Rg hT 3 [1,2,10,139,140,141] ⟨[(1,po s_int a1),(2,bx 2 1),(10,vi i32),(139,vs 10005 1 s_Cand l31),(140,eProg a0),(141,vs 10011 1 s_int l34)],[(2,cb 1 27 2 (eProg a0)),(10005,rb 1 s_Cand l31),(10011,rb 1 s_int l34)],2⟩ ?_
  obtain ⟨r42,hr42,h⟩:=bsome h
  refine Og [(0,rb 0 s_int l34)] [] [eProg a0,vs 10011 1 s_int l34] [eProg a0,vs 0 0 s_int l34] [(10011,0,0)] [] [] (eCand r42) (eCand r42) 3 en30 (ref22_guard_o_ok hr42) ?_
  refine Sgh hT 1 [1,2,10,139,143] [(143,vs 143 3 s_Cand [r42])] [(143,⟨3,37,3,false,false,s_Cand.F [r42]⟩),(2,cb 1 27 2 (eProg a0)),(10005,rb 1 s_Cand l31)] 4 ?_
  obtain ⟨g43,h⟩:=gsome h
  refine Oa hT s_Cand 10005 1 true l31 [r42] (eO s_Cand 143 3 true ⟨3,37,3,false,false,s_Cand.F [r42]⟩ [r42]) g43 ?_
  refine Szh hT 1 [1,2,5,10] [(5,vs 144 4 s_Cand (l31 ++ [r42]))] [(144,rb 4 s_Cand (l31 ++ [r42])),(143,⟨3,37,3,false,false,s_Cand.F [r42]⟩),(2,cb 1 27 2 (eProg a0))] 5 ?_
  refine Rgd hT 3 [1,2,5,10] [(10,vi (wr (i32 + 1)))] ?_
  exact oK [1,2,5,10] [(2,2,1),(144,10005,1)] ⟨_,by omega,by omega,l31 ++ [r42],wr (i32 + 1),h,rfl⟩
 refine WA_exit ?_
 refine Qzd hT 2 [4] [(4,vs 10005 1 s_Cand l31)] ?_
 obtain rfl:=Option.some.inj h
 exact rK [4] [(10005,100,1)] ⟨[(4,vs 100 1 s_Cand l31)],[(100,rb 1 s_Cand l31)],2⟩ ⟨by kernel_rfl,by kernel_rfl,rfl⟩
theorem law23_known_ok {n : Nat} {r : Bool} (h : law23_known n = some r) : PT Tryz.prog 10 [] (vb r):=by
 unfold law23_known at h
 refine PT_bodyA hT Tryz.func10 rfl (by kernel_rfl) fun bad w=>?_
 refine Qz hT 1 [] ⟨[],[],0⟩ ?_
 refine WA_seq ?_
 refine WA_region ?_
 obtain ⟨r1,hr1,h⟩:=bsome h
 refine Pt' en4 (law23_read_ok hr1) ?_
 refine Sg hT 1 [2,3] ⟨[(2,eProg r1),(3,vs 3 0 s_int [0,1])],[(3,⟨0,3,1,false,false,s_int.F [0,1]⟩)],1⟩ ?_
 refine WO_weak (wF 3 0 ⟨0,3,1,false,false,s_int.F [0,1]⟩ [(2,eProg r1),(3,po s_int [0,1])] [] ⟨rfl,.keep _,rfl,.hit true,trivial⟩ trivial) ?_
 obtain ⟨r2,hr2,h⟩:=bsome h
 refine Pt' en8 (cands_Of_ok hr2) ?_
 refine Sz hT 1 [1] ⟨[(1,.ps .fopt (s_Cand.F r2))],[],1⟩ ?_
 refine WA_seq ?_
 obtain ⟨J4,hJ4,h⟩:=jsome h
 refine WA_join (fun s=>∃ (b3 : Bool),J4 b3 = some r ∧ s = ⟨[(0,vb b3)],[],1⟩) ?_ ?_
 ·refine Rgd hT 1 [1,5] [(5,.ps .fopt (s_Cand.F r2))] ?_
  refine One' hT rfl (v_len s_Cand .fopt r2) ?_
  refine Sgd hT 2 [1,8] [(8,vb ((ln r2) == 4))] ?_
  cases hb : (((ln r2) == 4) : Bool)
  ·replace h:=cfalse hb h
   refine Sg hT 58 [0] ⟨[(0,vb false)],[],1⟩ ?_
   exact oK [0] [] ⟨false,h,rfl⟩
  replace h:=ctrue hb h
  refine Sgd hT 1 [1,8,9] [(9,.ps .fopt (s_Cand.F r2))] ?_
  obtain ⟨x5,hx5,h⟩:=bsome h
  refine One' hT rfl (v_index s_Cand .fopt r2 .i64 0 hx5) ?_
  refine Sgd hT 5 [1,15] [(15,vb (!x5.Guard))] ?_
  cases hb : (!x5.Guard : Bool)
  ·replace h:=cfalse hb h
   refine Sg hT 51 [0] ⟨[(0,vb false)],[],1⟩ ?_
   exact oK [0] [] ⟨false,h,rfl⟩
  replace h:=ctrue hb h
  refine Sgd hT 1 [1,15,16] [(16,.ps .fopt (s_Cand.F r2))] ?_
  obtain ⟨x6,hx6,h⟩:=bsome h
  refine One' hT rfl (v_index s_Cand .fopt r2 .i64 0 hx6) ?_
  refine Sgd hT 2 [1,15,19] [(19,po s_int x6.Names)] ?_
  refine One' hT rfl (v_len s_int .opt x6.Names) ?_
  refine Sgd hT 3 [1,23] [(23,vb ((ln x6.Names) == 1))] ?_
  cases hb : (((ln x6.Names) == 1) : Bool)
  ·replace h:=cfalse hb h
   refine Sg hT 43 [0] ⟨[(0,vb false)],[],1⟩ ?_
   exact oK [0] [] ⟨false,h,rfl⟩
  replace h:=ctrue hb h
  refine Sgd hT 1 [1,23,24] [(24,.ps .fopt (s_Cand.F r2))] ?_
  obtain ⟨x7,hx7,h⟩:=bsome h
  refine One' hT rfl (v_index s_Cand .fopt r2 .i64 0 hx7) ?_
  refine Sgd hT 2 [1,23,27] [(27,po s_int x7.Names)] ?_
  obtain ⟨x8,hx8,h⟩:=bsome h
  refine One' hT rfl (v_index s_int .opt x7.Names .i64 0 hx8) ?_
  refine Sgd hT 4 [1,32] [(32,vb (x8 == 0))] ?_
  cases hb : ((x8 == 0) : Bool)
  ·replace h:=cfalse hb h
   refine Sg hT 34 [0] ⟨[(0,vb false)],[],1⟩ ?_
   exact oK [0] [] ⟨false,h,rfl⟩
  replace h:=ctrue hb h
  refine Sgd hT 1 [1,32,33] [(33,.ps .fopt (s_Cand.F r2))] ?_
  obtain ⟨x9,hx9,h⟩:=bsome h
  refine One' hT rfl (v_index s_Cand .fopt r2 .i64 0 hx9) ?_
  refine Sg hT 5 [1,39] ⟨[(1,.ps .fopt (s_Cand.F r2)),(39,vb ((FloatKind.f64.format.order x9.Cost.re (⟨4611686018427387904,4607182418800017408⟩ : Cx).re == some .eq) && (FloatKind.f64.format.order x9.Cost.im (⟨4611686018427387904,4607182418800017408⟩ : Cx).im == some .eq)))],[],1⟩ ?_
  cases hb : (((FloatKind.f64.format.order x9.Cost.re (⟨4611686018427387904,4607182418800017408⟩ : Cx).re == some .eq) && (FloatKind.f64.format.order x9.Cost.im (⟨4611686018427387904,4607182418800017408⟩ : Cx).im == some .eq)) : Bool)
  ·replace h:=cfalse hb h
   refine Sg hT 27 [0] ⟨[(0,vb false)],[],1⟩ ?_
   exact oK [0] [] ⟨false,h,rfl⟩
  replace h:=ctrue hb h
  refine Sgd hT 1 [1,39,40] [(40,.ps .fopt (s_Cand.F r2))] ?_
  obtain ⟨x10,hx10,h⟩:=bsome h
  refine One' hT rfl (v_index s_Cand .fopt r2 .i64 1 hx10) ?_
  refine Sgd hT 4 [1,45] [(45,vb x10.Guard)] ?_
  cases hb : (x10.Guard : Bool)
  ·replace h:=cfalse hb h
   refine Sg hT 21 [0] ⟨[(0,vb false)],[],1⟩ ?_
   exact oK [0] [] ⟨false,h,rfl⟩
  replace h:=ctrue hb h
  refine Sgd hT 1 [1,45,46] [(46,.ps .fopt (s_Cand.F r2))] ?_
  obtain ⟨x11,hx11,h⟩:=bsome h
  refine One' hT rfl (v_index s_Cand .fopt r2 .i64 3 hx11) ?_
  refine Sgd hT 4 [1,51] [(51,vb x11.Guard)] ?_
  cases hb : (x11.Guard : Bool)
  ·replace h:=cfalse hb h
   refine Sg hT 15 [0] ⟨[(0,vb false)],[],1⟩ ?_
   exact oK [0] [] ⟨false,h,rfl⟩
  replace h:=ctrue hb h
  refine Sgd hT 1 [1,51,52] [(52,.ps .fopt (s_Cand.F r2))] ?_
  obtain ⟨x12,hx12,h⟩:=bsome h
  refine One' hT rfl (v_index s_Cand .fopt r2 .i64 3 hx12) ?_
  refine Sgd hT 2 [1,51,55] [(55,po s_int x12.Names)] ?_
  refine One' hT rfl (v_len s_int .opt x12.Names) ?_
  refine Sgd hT 3 [1,59] [(59,vb ((ln x12.Names) == 2))] ?_
  cases hb : (((ln x12.Names) == 2) : Bool)
  ·replace h:=cfalse hb h
   refine Sg hT 7 [0] ⟨[(0,vb false)],[],1⟩ ?_
   exact oK [0] [] ⟨false,h,rfl⟩
  replace h:=ctrue hb h
  refine Sg hT 1 [59,60] ⟨[(59,vb true),(60,.ps .fopt (s_Cand.F r2))],[],1⟩ ?_
  obtain ⟨x13,hx13,h⟩:=bsome h
  refine One' hT rfl (v_index s_Cand .fopt r2 .i64 3 hx13) ?_
  refine Sg hT 5 [0] ⟨[(0,vb ((FloatKind.f64.format.order x13.Cost.re (⟨4616189618054758400,4607182418800017408⟩ : Cx).re == some .eq) && (FloatKind.f64.format.order x13.Cost.im (⟨4616189618054758400,4607182418800017408⟩ : Cx).im == some .eq)))],[],1⟩ ?_
  exact oK [0] [] ⟨((FloatKind.f64.format.order x13.Cost.re (⟨4616189618054758400,4607182418800017408⟩ : Cx).re == some .eq) && (FloatKind.f64.format.order x13.Cost.im (⟨4616189618054758400,4607182418800017408⟩ : Cx).im == some .eq)),h,rfl⟩
 subst hJ4
 rintro s ⟨b3,h,rfl⟩
 obtain rfl:=Option.some.inj h
 exact rK [0] [] ⟨[(0,vb b3)],[],1⟩ ⟨by kernel_rfl,rfl⟩
theorem law23_same_ok {n : Nat} {a0 : List Int} {a1 : List Int} {r : Bool} (h : law23_same n a0 a1 = some r) : PT Tryz.prog 11 [po s_int a0,po s_int a1] (vb r):=by
 unfold law23_same at h
 refine PT_bodyA hT Tryz.func11 rfl (by kernel_rfl) fun bad w=>?_
 refine Qzd hT 1 [0,1] [] ?_
 refine WA_seq ?_
 refine Qgd hT 1 [0,1,6] [(6,po s_int a0)] ?_
 refine One' hT rfl (v_len s_int .opt a0) ?_
 refine Sgd hT 1 [0,1,7,8] [(7,vi (ln a0)),(8,po s_int a1)] ?_
 refine One' hT rfl (v_len s_int .opt a1) ?_
 refine Szd hT 1 [0,1,10] [(10,vb ((ln a0) != (ln a1)))] ?_
 refine Ci h (fun h=>?_) fun h=>?_
 ·refine Qz hT 1 [4] ⟨[(4,vb false)],[],0⟩ ?_
  obtain rfl:=Option.some.inj h
  exact rK [4] [] ⟨[(4,vb false)],[],1⟩ ⟨by kernel_rfl,rfl⟩
 refine WA_skip ?_
 refine WA_seq ?_
 refine Qgd hT 1 [0,1,11] [(11,po s_int a0)] ?_
 refine One' hT rfl (v_len s_int .opt a0) ?_
 refine Szd hT 1 [0,1,12,13] [(12,vi (ln a0)),(13,vi 0)] ?_
 refine WA_block ?_
 refine lK [0,1,12,13] [] (fun k s=>∃ q,q ≤ k ∧ q ≤ n ∧ ∃ (i1 : Int),law23_same_L0 q a0 a1 i1 = some r ∧ s = ⟨[(0,po s_int a0),(1,po s_int a1),(12,vi (ln a0)),(13,vi i1)],[],1⟩) n ⟨n,Nat.le_refl _,Nat.le_refl _,0,h,rfl⟩ (by rintro s ⟨q,hq,_,i1,h,_⟩; obtain rfl:=Nat.le_zero.1 hq; rw [law23_same_L0] at h; cases h) ?_
 clear h
 rintro k1 s ⟨q1,hk1,hn1,i1,h,rfl⟩
 rcases q1 with _ | q1
 ·rw [law23_same_L0] at h; cases h
 rw [law23_same_L0] at h
 refine Qzd hT 1 [0,1,12,13,14] [(14,vb (decide (i1 < (ln a0))))] ?_
 refine WA_seq ?_
 refine Ci h (fun h=>?_) fun h=>?_
 ·refine WA_skip ?_
  refine WA_seq ?_
  refine WA_block ?_
  refine Qzd hT 2 [0,1,5,12,13] [(5,vi i1)] ?_
  refine WA_seq ?_
  refine WA_drawW hT hM (by kernel_rfl) ?_
  refine Ds 2 [(17,vi i1),(16,po s_int a0)] [] [] ?_
  obtain ⟨x2,hx2,h⟩:=bsome h
  refine Dl rfl (v_index s_int .opt a0 .i64 i1 hx2) ?_
  refine Dt (.ref (e_i64 x2) 0) ?_
  refine Ds 3 [(21,vi i1),(20,po s_int a1),(19,vi x2)] [] [] ?_
  obtain ⟨x3,hx3,h⟩:=bsome h
  refine Dl rfl (v_index s_int .opt a1 .i64 i1 hx3) ?_
  refine Dt (.ref (e_i64 x3) 0) ?_
  refine Ds 2 [(24,vb (x2 != x3)),(23,vi x3)] [] [] ?_
  refine De ?_
  refine Wk_done ?_
  refine Ci h (fun h=>?_) fun h=>?_
  ·refine Qz hT 1 [4] ⟨[(4,vb false)],[],1⟩ ?_
   obtain rfl:=Option.some.inj h
   exact rK [4] [] ⟨[(4,vb false)],[],1⟩ ⟨by kernel_rfl,rfl⟩
  refine WA_skip ?_
  refine Rgd hT 2 [0,1,12,13] [(13,vi (wr (i1 + 1)))] ?_
  exact oK [0,1,12,13] [] ⟨_,by omega,by omega,wr (i1 + 1),h,rfl⟩
 refine WA_exit ?_
 refine Qz hT 1 [4] ⟨[(4,vb true)],[],1⟩ ?_
 obtain rfl:=Option.some.inj h
 exact rK [4] [] ⟨[(4,vb true)],[],1⟩ ⟨by kernel_rfl,rfl⟩
theorem cands_Racy_ok {n : Nat} {a0 : List Race} {r : List Int} (h : cands_Racy n a0 = some r) : PT Tryz.prog 12 [po s_Race a0] (.ps .fopt (s_int.F r)):=by
 unfold cands_Racy at h
 refine PT_bodyA hT Tryz.func12 rfl (by kernel_rfl) fun bad w=>?_
 refine Qzd hT 1 [0] [] ?_
 refine Qzd hT 1 [0,3] [(3,vn)] ?_
 refine WA_seq ?_
 refine Qgd hT 1 [3,6] [(6,po s_Race a0)] ?_
 refine One' hT rfl (v_len s_Race .opt a0) ?_
 refine Szd hT 1 [3,6,7,8] [(7,vi (ln a0)),(8,vi 0)] ?_
 refine WA_block ?_
 refine aW [3,6,7,8] ⟨[(3,vn),(6,po s_Race a0),(7,vi (ln a0)),(8,vi 0)],[],0⟩ ?_
 refine WA_weak (wO 3 5000 3 1) ?_
 refine lK [3,6,7,8] [(5000,10003,0)] (fun k s=>∃ q,q ≤ k ∧ q ≤ n ∧ ∃ (l1 : List Int),∃ (i2 : Int),cands_Racy_L0 q a0 l1 i2 = some r ∧ s = ⟨[(3,vs 10003 0 s_int l1),(6,po s_Race a0),(7,vi (ln a0)),(8,vi i2)],[(10003,rb 0 s_int l1)],1⟩) n ⟨n,Nat.le_refl _,Nat.le_refl _,([] : List Int),0,h,rfl⟩ (by rintro s ⟨q,hq,_,l1,i2,h,_⟩; obtain rfl:=Nat.le_zero.1 hq; rw [cands_Racy_L0] at h; cases h) ?_
 clear h
 rintro k1 s ⟨q1,hk1,hn1,l1,i2,h,rfl⟩
 rcases q1 with _ | q1
 ·rw [cands_Racy_L0] at h; cases h
 rw [cands_Racy_L0] at h
 refine Qzd hT 1 [3,6,7,8,9] [(9,vb (decide (i2 < (ln a0))))] ?_
 refine WA_seq ?_
 refine Ci h (fun h=>?_) fun h=>?_
 ·refine WA_skip ?_
  refine WA_seq ?_
  refine WA_block ?_
  refine Qg hT 0 [3,6,7,8] ⟨[(3,vs 10003 0 s_int l1),(6,po s_Race a0),(7,vi (ln a0)),(8,vi i2)],[(10003,rb 0 s_int l1)],1⟩ ?_
  obtain ⟨x3,hx3,h⟩:=bsome h
  refine One' hT rfl (v_index s_Race .opt a0 .i64 i2 hx3) ?_
  refine Szh hT 3 [3,5,6,7,8] [(5,bx 5 1)] [(5,cb 1 41 4 (eRace x3)),(10003,rb 0 s_int l1)] 2 ?_
  refine Rgh hT 4 [6,7,8,12,15] [(12,vs 10003 0 s_int l1),(15,vs 15 2 s_int [x3.Name])] [(15,⟨2,3,1,false,false,s_int.F [x3.Name]⟩),(5,cb 1 41 4 (eRace x3)),(10003,rb 0 s_int l1)] 3 ?_
  obtain ⟨g4,h⟩:=gsome h
  refine Oa hT s_int 10003 0 true l1 [x3.Name] (eO s_int 15 2 true ⟨2,3,1,false,false,s_int.F [x3.Name]⟩ [x3.Name]) g4 ?_
  refine Szh hT 1 [3,6,7,8] [(3,vs 16 3 s_int (l1 ++ [x3.Name]))] [(16,rb 3 s_int (l1 ++ [x3.Name])),(15,⟨2,3,1,false,false,s_int.F [x3.Name]⟩),(5,cb 1 41 4 (eRace x3))] 4 ?_
  refine Rgd hT 2 [3,6,7,8] [(8,vi (wr (i2 + 1)))] ?_
  exact oK [3,6,7,8] [(16,10003,0)] ⟨_,by omega,by omega,l1 ++ [x3.Name],wr (i2 + 1),h,rfl⟩
 refine WA_exit ?_
 refine Qgd hT 1 [3,18] [(18,vs 10003 0 s_int l1)] ?_
 obtain ⟨g5,h⟩:=gsome h
 refine Og [(0,rb 0 s_int l1)] [(0,rb 0 s_int (srt l1))] [vs 10003 0 s_int l1] [vs 0 0 s_int l1] [(10003,0,0)] [(0,10003,0)] [(10003,rb 0 s_int (srt l1))] (.tup []) (.tup []) 2 en31 (sort_x true true l1 g5) ?_
 refine WO_weak (Weak_val 3 rfl (VLf.slen (srt_len s_int.toTE l1)) (by kernel_rfl) (by kernel_rfl)) ?_
 refine WO_weak (Weak_val 18 rfl (VLf.slen (srt_len s_int.toTE l1)) (by kernel_rfl) (by kernel_rfl)) ?_
 refine Szh hT 0 [3] [] [(10003,rb 0 s_int (srt l1))] 2 ?_
 refine Qgd hT 1 [20] [(20,vs 10003 0 s_int (srt l1))] ?_
 obtain ⟨g6,h⟩:=gsome h
 refine Og [(0,rb 0 s_int (srt l1))] [(0,rb 0 s_int (cpt (srt l1)))] [vs 10003 0 s_int (srt l1)] [vs 0 0 s_int (srt l1)] [(10003,0,0)] [(0,10003,0)] [(10003,rb 0 s_int (cpt (srt l1)))] (.sl 0 0 0 (s_int.F (cpt (srt l1))).length false) (.sl 10003 0 0 (s_int.F (cpt (srt l1))).length false) 3 en32 (compact_x true true (srt l1) g6) ?_
 refine WO_weak (Weak_val 20 rfl (VLf.undef _) (by kernel_rfl) (by kernel_rfl)) ?_
 refine Sg hT 0 [21] ⟨[(21,.sl 10003 0 0 (s_int.F (cpt (srt l1))).length false)],[(10003,rb 0 s_int (cpt (srt l1)))],3⟩ ?_
 refine WO_weak (wF 10003 0 (rb 0 s_int (cpt (srt l1))) [(21,po s_int (cpt (srt l1)))] [] ⟨rfl,.hit false,trivial⟩ trivial) ?_
 obtain ⟨r7,hr7,h⟩:=bsome h
 refine Pt' en23 (Clip_int_ok hr7) ?_
 refine Sz hT 1 [2] ⟨[(2,.ps .fopt (s_int.F r7))],[],3⟩ ?_
 obtain rfl:=Option.some.inj h
 exact rK [2] [] ⟨[(2,.ps .fopt (s_int.F r7))],[],1⟩ ⟨by kernel_rfl,rfl⟩
theorem ref22_Racy_ok {n : Nat} {a0 : List Race} {r : List Int} (h : ref22_Racy n a0 = some r) : GO Tryz.prog 13 [] [po s_Race a0] (vs 100 1 s_int r) [(100,rb 1 s_int r)]:=by
 unfold ref22_Racy at h
 refine GO_bodyA hT Tryz.func13 rfl [] (by kernel_rfl) fun bad w m=>?_
 refine Qzd hT 1 [0] [] ?_
 refine Qzd hT 1 [0,3] [(3,vn)] ?_
 refine WA_block ?_
 refine aW [0,3] ⟨[(0,po s_Race a0),(3,vn)],[],1⟩ ?_
 refine WA_weak (wO 3 5000 3 1) ?_
 refine lK [0,3] [(5000,10003,1)] (fun k s=>∃ q,q ≤ k ∧ q ≤ n ∧ ∃ (l1 : List Int),ref22_Racy_L0 q a0 l1 = some r ∧ s = ⟨[(0,po s_Race a0),(3,vs 10003 1 s_int l1)],[(10003,rb 1 s_int l1)],2⟩) n ⟨n,Nat.le_refl _,Nat.le_refl _,([] : List Int),h,rfl⟩ (by rintro s ⟨q,hq,_,l1,h,_⟩; obtain rfl:=Nat.le_zero.1 hq; rw [ref22_Racy_L0] at h; cases h) ?_
 clear h
 rintro k1 s ⟨q1,hk1,hn1,l1,h,rfl⟩
 rcases q1 with _ | q1
 ·rw [ref22_Racy_L0] at h; cases h
 rw [ref22_Racy_L0] at h
 refine WA_block ?_
 refine Qzd hT 1 [0,3,4] [(4,vi (-1))] ?_
 refine WA_seq ?_
 refine Qzd hT 1 [0,3,4,5] [(5,vi 0)] ?_
 refine WA_block ?_
 refine lK [0,3,4,5] [(10003,10003,1)] (fun k s=>∃ q,q ≤ k ∧ q ≤ q1 ∧ ∃ (i2 : Int),∃ (i3 : Int),ref22_Racy_L1 q a0 l1 i2 i3 = some r ∧ s = ⟨[(0,po s_Race a0),(3,vs 10003 1 s_int l1),(4,vi i2),(5,vi i3)],[(10003,rb 1 s_int l1)],2⟩) q1 ⟨q1,Nat.le_refl _,Nat.le_refl _,(-1),0,h,rfl⟩ (by rintro s ⟨q,hq,_,i2,i3,h,_⟩; obtain rfl:=Nat.le_zero.1 hq; rw [ref22_Racy_L1] at h; cases h) ?_
 clear h
 rintro k2 s ⟨q2,hk2,hn2,i2,i3,h,rfl⟩
 rcases q2 with _ | q2
 ·rw [ref22_Racy_L1] at h; cases h
 rw [ref22_Racy_L1] at h
 refine WA_seq ?_
 refine Qgd hT 2 [0,3,4,5,7,8] [(7,vi i3),(8,po s_Race a0)] ?_
 refine One' hT rfl (v_len s_Race .opt a0) ?_
 refine Szd hT 1 [0,3,4,5,10] [(10,vb (decide (i3 < (ln a0))))] ?_
 refine Ci h (fun h=>?_) fun h=>?_
 ·refine WA_skip ?_
  refine WA_seq ?_
  obtain ⟨J5,hJ5,h⟩:=jsome h
  refine WA_join (fun s=>∃ (i4 : Int),J5 i4 = some r ∧ s = ⟨[(0,po s_Race a0),(3,vs 10003 1 s_int l1),(4,vi i4),(5,vi i3)],[(10003,rb 1 s_int l1)],2⟩) ?_ ?_
  ·refine WA_block ?_
   refine Qgd hT 2 [0,3,4,5,13,14] [(13,po s_Race a0),(14,vi i3)] ?_
   obtain ⟨x6,hx6,h⟩:=bsome h
   refine One' hT rfl (v_index s_Race .opt a0 .i64 i3 hx6) ?_
   refine Szd hT 3 [0,3,4,5,6] [(6,vi x6.Name)] ?_
   refine WA_seq ?_
   obtain ⟨J8,hJ8,h⟩:=jsome h
   refine WA_join (fun s=>∃ (b7 : Bool),J8 b7 = some r ∧ s = ⟨[(0,po s_Race a0),(3,vs 10003 1 s_int l1),(4,vi i2),(5,vi i3),(43,vb b7)],[(10003,rb 1 s_int l1)],2⟩) ?_ ?_
   ·refine Rgd hT 1 [0,3,4,5,6,18] [(18,vs 10003 1 s_int l1)] ?_
    refine One' hT rfl (v_len_own s_int 10003 1 true (rb 1 s_int l1) l1) ?_
    refine Sgd hT 2 [0,3,4,5,6,21] [(21,vb ((ln l1) == 0))] ?_
    cases hb : (((ln l1) == 0) : Bool)
    ·replace h:=cfalse hb h
     refine Sgd hT 3 [0,3,4,5,6,21,22,23,24] [(22,vi x6.Name),(23,vs 10003 1 s_int l1),(24,vs 10003 1 s_int l1)] ?_
     refine One' hT rfl (v_len_own s_int 10003 1 true (rb 1 s_int l1) l1) ?_
     refine Sgd hT 1 [0,3,4,5,6,21,22,23,26] [(26,vi (wr ((ln l1) - 1)))] ?_
     obtain ⟨x9,hx9,h⟩:=bsome h
     refine One' hT rfl (v_index_own s_int 10003 1 true (rb 1 s_int l1) l1 .i64 (wr ((ln l1) - 1)) hx9) ?_
     refine Sg hT 0 [0,3,4,5,6,21,22,27] ⟨[(0,po s_Race a0),(3,vs 10003 1 s_int l1),(4,vi i2),(5,vi i3),(6,vi x6.Name),(21,vb false),(22,vi x6.Name),(27,.box 10003 1 (wr ((ln l1) - 1)).toNat 0)],[(10003,rb 1 s_int l1)],2⟩ ?_
     refine One' hT rfl (v_load_row s_int 10003 1 (rb 1 s_int l1) l1 (wr ((ln l1) - 1)).toNat 0 x9 (vi x9) (idx_some hx9).2) ?_
     refine Sgd hT 3 [0,3,4,5,6,31] [(31,vb (decide (x6.Name > x9)))] ?_
     cases hb : (decide (x6.Name > x9) : Bool)
     ·replace h:=cfalse hb h
      refine Sgd hT 12 [0,3,4,5,43] [(43,vb false)] ?_
      exact oK [0,3,4,5,43] [(10003,10003,1)] ⟨false,h,rfl⟩
     replace h:=ctrue hb h
     refine Sgd hT 3 [0,3,4,5,6,31,34] [(34,vb (decide (i2 < 0)))] ?_
     cases hb : (decide (i2 < 0) : Bool)
     ·replace h:=cfalse hb h
      refine Sgd hT 3 [0,3,4,5,31,34,35,36,37] [(35,vi x6.Name),(36,po s_Race a0),(37,vi i2)] ?_
      obtain ⟨x10,hx10,h⟩:=bsome h
      refine One' hT rfl (v_index s_Race .opt a0 .i64 i2 hx10) ?_
      refine Sgd hT 5 [0,3,4,5,43] [(43,vb (decide (x6.Name < x10.Name)))] ?_
      exact oK [0,3,4,5,43] [(10003,10003,1)] ⟨decide (x6.Name < x10.Name),h,rfl⟩
     replace h:=ctrue hb h
     refine Sgd hT 9 [0,3,4,5,43] [(43,vb true)] ?_
     exact oK [0,3,4,5,43] [(10003,10003,1)] ⟨true,h,rfl⟩
    replace h:=ctrue hb h
    refine Sgd hT 13 [0,3,4,5,6,31,34] [(31,vb true),(34,vb (decide (i2 < 0)))] ?_
    cases hb : (decide (i2 < 0) : Bool)
    ·replace h:=cfalse hb h
     refine Sgd hT 3 [0,3,4,5,31,34,35,36,37] [(35,vi x6.Name),(36,po s_Race a0),(37,vi i2)] ?_
     obtain ⟨x11,hx11,h⟩:=bsome h
     refine One' hT rfl (v_index s_Race .opt a0 .i64 i2 hx11) ?_
     refine Sg hT 5 [0,3,4,5,43] ⟨[(0,po s_Race a0),(3,vs 10003 1 s_int l1),(4,vi i2),(5,vi i3),(43,vb (decide (x6.Name < x11.Name)))],[(10003,rb 1 s_int l1)],2⟩ ?_
     exact oK [0,3,4,5,43] [(10003,10003,1)] ⟨decide (x6.Name < x11.Name),h,rfl⟩
    replace h:=ctrue hb h
    refine Sgd hT 9 [0,3,4,5,43] [(43,vb true)] ?_
    exact oK [0,3,4,5,43] [(10003,10003,1)] ⟨true,h,rfl⟩
   subst hJ8
   rintro s ⟨b7,h,rfl⟩
   skip
   refine Ci h (fun h=>?_) fun h=>?_
   ·refine Rgd hT 2 [0,3,4,5] [(4,vi i3)] ?_
    exact oK [0,3,4,5] [(10003,10003,1)] ⟨i3,h,rfl⟩
   exact sK [0,3,4,5] [(10003,10003,1)] ⟨i2,h,rfl⟩
  subst hJ5
  rintro s ⟨i4,h,rfl⟩
  skip
  refine Rgd hT 3 [0,3,4,5] [(5,vi (wr (i3 + 1)))] ?_
  exact oK [0,3,4,5] [(10003,10003,1)] ⟨_,by omega,by omega,i4,wr (i3 + 1),h,rfl⟩
 refine WA_exit ?_
 refine WA_seq ?_
 refine Qzd hT 2 [0,3,4,46] [(46,vb (decide (i2 < 0)))] ?_
 refine Ci h (fun h=>?_) fun h=>?_
 ·refine Qzd hT 2 [2] [(2,vs 10003 1 s_int l1)] ?_
  obtain rfl:=Option.some.inj h
  exact rK [2] [(10003,100,1)] ⟨[(2,vs 100 1 s_int l1)],[(100,rb 1 s_int l1)],2⟩ ⟨by kernel_rfl,by kernel_rfl,rfl⟩
 refine WA_skip ?_
 refine Rgd hT 3 [0,48,49,50] [(48,vs 10003 1 s_int l1),(49,po s_Race a0),(50,vi i2)] ?_
 obtain ⟨x12,hx12,h⟩:=bsome h
 refine One' hT rfl (v_index s_Race .opt a0 .i64 i2 hx12) ?_
 refine Sgh hT 3 [0,48,54] [(54,vs 54 2 s_int [x12.Name])] [(54,⟨2,3,1,false,false,s_int.F [x12.Name]⟩),(10003,rb 1 s_int l1)] 3 ?_
 obtain ⟨g13,h⟩:=gsome h
 refine Oa hT s_int 10003 1 true l1 [x12.Name] (eO s_int 54 2 true ⟨2,3,1,false,false,s_int.F [x12.Name]⟩ [x12.Name]) g13 ?_
 refine Sgh hT 1 [0,3] [(3,vs 55 3 s_int (l1 ++ [x12.Name]))] [(55,rb 3 s_int (l1 ++ [x12.Name])),(54,⟨2,3,1,false,false,s_int.F [x12.Name]⟩)] 4 ?_
 exact oK [0,3] [(55,10003,1)] ⟨_,by omega,by omega,l1 ++ [x12.Name],h,rfl⟩
end Go.Su.YtepcmciljmennaaGreat
