/-
  The functions of the program compute that.
-/
import Derived.Test.YtfmgnboplbgniaaZCTPb
namespace Go.Su.Ytfmgnboplbgniaa
open Go.Mx Go.Proofs
set_option maxRecDepth 100000
set_option maxHeartbeats 20000000
set_option linter.unusedVariables false
set_option linter.unusedSimpArgs false
def tree_copyExpr_spec (n : Nat) : Prop := (∀ {a0 : Expr} {r : Expr}, tree_copyExpr n a0 = some r → PT Try.prog 136 [eExpr a0] (eExpr r))
theorem tree_copyExpr_step (n : Nat) (ih : ∀ m, m < n → tree_copyExpr_spec m) : ∀ {a0 : Expr} {r : Expr}, tree_copyExpr n a0 = some r → PT Try.prog 136 [eExpr a0] (eExpr r) := by
 intro a0 r h
 rcases n with _ | n
 ·rw [tree_copyExpr] at h; cases h
 rw [tree_copyExpr] at h
 refine PT_bodyA hT Try.func136 rfl (by kernel_rfl) fun bad w => ?_
 refine Qz hT 2 [1, 2] ⟨[(1, bx 1 0), (2, bx 2 1)], [(2, cb 1 35 4 (.agg [vi 0, vi 0, vw b0, vn])), (1, cb 0 35 4 (eExpr a0))], 2⟩ ?_
 refine Qgd hT 2 [1, 2, 6] [(6, po s_Expr a0.Of)] ?_
 obtain ⟨r1, hr1, h⟩ := bsome h
 refine Og [] [(100, rb 1 s_Expr r1)] [po s_Expr a0.Of] [po s_Expr a0.Of] [] [(100, 7, 2)] [(7, rb 2 s_Expr r1)] (vs 100 1 s_Expr r1) (vs 7 2 s_Expr r1) 3 en155 (Clone_Expr_ok hr1) ?_
 refine Sgh hT 0 [1, 2, 7] [(7, vs 7 2 s_Expr r1)] [(7, rb 2 s_Expr r1), (2, cb 1 35 4 (.agg [vi 0, vi 0, vw b0, vn])), (1, cb 0 35 4 (eExpr a0))] 3 ?_
 obtain ⟨r2, hr2, h⟩ := bsome h
 refine Og [(0, rb 0 s_Expr r1)] [(100, rb 1 s_Expr r2)] [vs 7 2 s_Expr r1] [vs 0 0 s_Expr r1] [(7, 0, 0)] [(100, 8, 3)] [(8, rb 3 s_Expr r2)] (.sl 100 1 0 (s_Expr.F r2).length false) (.sl 8 3 0 (s_Expr.F r2).length false) 4 en154 (Clip_Expr_o_ok hr2) ?_
 refine Szh hT 2 [1, 2] [] [(1, cb 0 35 4 (.agg [vi a0.Kind, vi a0.N, vw a0.Name, .sl 8 3 0 (s_Expr.F r2).length false])), (8, rb 3 s_Expr r2), (2, cb 1 35 4 (.agg [vi 0, vi 0, vw b0, vn]))] 4 ?_
 refine WA_seq ?_
 refine Qgd hT 2 [1, 2, 11] [(11, .sl 8 3 0 (s_Expr.F r2).length false)] ?_
 refine One' hT rfl (v_len_own s_Expr 8 3 false (rb 3 s_Expr r2) r2) ?_
 refine Szd hT 1 [1, 2, 11, 12, 13] [(12, vi (ln r2)), (13, vi 0)] ?_
 refine WA_block ?_
 refine lK [1, 2, 11, 12, 13] [(1, 1, 0), (2, 2, 0), (8, 8, 0)] (fun k s => ∃ q, q ≤ k ∧ q ≤ n ∧ ∃ (l4 : List Expr), ∃ (w5 : ByteArray), ∃ (i6 : Int), tree_copyExpr_L0 q a0 r1 r2 l4 w5 i6 = some r ∧ s = ⟨[(1, bx 1 0), (2, bx 2 0), (11, .sl 8 0 0 (s_Expr.F l4).length false), (12, vi (ln r2)), (13, vi i6)], [(1, cb 0 35 4 (.agg [vi a0.Kind, vi a0.N, vw a0.Name, .sl 8 0 0 (s_Expr.F l4).length false])), (2, cb 0 35 4 (.agg [vi 0, vi 0, vw w5, vn])), (8, rb 0 s_Expr l4)], 1⟩) n ⟨n, Nat.le_refl _, Nat.le_refl _, r2, b0, 0, h, rfl⟩ (by rintro s ⟨q, hq, _, l4, w5, i6, h, _⟩; obtain rfl := Nat.le_zero.1 hq; rw [tree_copyExpr_L0] at h; cases h) ?_
 clear h
 rintro k1 s ⟨q1, hk1, hn1, l4, w5, i6, h, rfl⟩
 rcases q1 with _ | q1
 ·rw [tree_copyExpr_L0] at h; cases h
 rw [tree_copyExpr_L0] at h
 refine Qzd hT 1 [1, 2, 11, 12, 13, 14] [(14, vb (decide (i6 < (ln r2))))] ?_
 refine WA_seq ?_
 refine Ci h (fun h => ?_) fun h => ?_
 ·refine WA_skip ?_
  refine WA_seq ?_
  refine WA_block ?_
  refine Qgd hT 1 [1, 2, 11, 12, 13, 15] [(15, vi i6)] ?_
  obtain ⟨x7, hx7, h⟩ := bsome h
  refine One' hT rfl (v_index_own s_Expr 8 0 false (rb 0 s_Expr l4) l4 .i64 i6 hx7) ?_
  refine Sg hT 0 [1, 2, 11, 12, 13, 15, 16] ⟨[(1, bx 1 0), (2, bx 2 0), (11, .sl 8 0 0 (s_Expr.F l4).length false), (12, vi (ln r2)), (13, vi i6), (15, vi i6), (16, .box 8 0 i6.toNat 0)], [(1, cb 0 35 4 (.agg [vi a0.Kind, vi a0.N, vw a0.Name, .sl 8 0 0 (s_Expr.F l4).length false])), (2, cb 0 35 4 (.agg [vi 0, vi 0, vw w5, vn])), (8, rb 0 s_Expr l4)], 1⟩ ?_
  refine One' hT rfl (v_load_row s_Expr 8 0 (rb 0 s_Expr l4) l4 i6.toNat 0 x7 (eExpr x7) (idx_some hx7).2) ?_
  refine Szh hT 3 [1, 2, 3, 4, 11, 12, 13] [(3, vi i6), (4, bx 4 1)] [(4, cb 1 35 4 (eExpr x7)), (1, cb 0 35 4 (.agg [vi a0.Kind, vi a0.N, vw a0.Name, .sl 8 0 0 (s_Expr.F l4).length false])), (2, cb 0 35 4 (.agg [vi 0, vi 0, vw w5, vn])), (8, rb 0 s_Expr l4)] 2 ?_
  refine WA_drawW hT hM (by kernel_rfl) ?_
  refine Ds 4 [(21, eExpr x7), (20, vi i6), (19, .sl 8 0 0 (s_Expr.F l4).length false), (18, .box 1 0 0 3)] [] [(0, [1]), (1, [1]), (3, [4])] ?_
  obtain ⟨r8, hr8, h⟩ := bsome h
  refine Dp [eExpr x7] (eExpr r8) en136 ((ih _ (by omega)) hr8) ?_
  obtain ⟨x9, hx9, h⟩ := bsome h
  refine Dl rfl (v_index_own s_Expr 8 0 false (rb 0 s_Expr l4) l4 .i64 i6 hx9) ?_
  refine Dt (.box 8 0 i6.toNat 0) ?_
  refine Dw rfl (v_storeRow s_Expr 8 0 (rb 0 s_Expr l4) l4 i6.toNat 0 x9 r8 (idx_some hx9).2) ?_
  refine De ?_
  refine kW [1, 2, 11, 12, 13] ⟨[(1, bx 1 0), (2, bx 2 0), (11, .sl 8 0 0 (s_Expr.F l4).length false), (12, vi (ln r2)), (13, vi i6)], [(8, rb 0 s_Expr (l4.set i6.toNat r8)), (4, cb 1 35 4 (eExpr x7)), (1, cb 0 35 4 (.agg [vi a0.Kind, vi a0.N, vw a0.Name, .sl 8 0 0 (s_Expr.F l4).length false])), (2, cb 0 35 4 (.agg [vi 0, vi 0, vw w5, vn]))], 2⟩ ?_
  refine Wk_step (wL [(1, bx 1 0), (2, bx 2 0), (11, .sl 8 0 0 (s_Expr.F (l4.set i6.toNat r8)).length false), (12, vi (ln r2)), (13, vi i6)] [(8, rb 0 s_Expr (l4.set i6.toNat r8)), (4, cb 1 35 4 (eExpr x7)), (1, cb 0 35 4 (.agg [vi a0.Kind, vi a0.N, vw a0.Name, .sl 8 0 0 (s_Expr.F (l4.set i6.toNat r8)).length false])), (2, cb 0 35 4 (.agg [vi 0, vi 0, vw w5, vn]))] ⟨VLf.refl _, VLf.refl _, (VLf.slen (by simp [TE.len, lcopy_length, rcopy_length])), VLf.refl _, VLf.refl _, trivial⟩ ⟨rfl, .inl rfl, rfl, .inl rfl, rfl, .inr (.inl ⟨rfl, rfl, CLe.agg ⟨VLf.refl _, VLf.refl _, VLf.refl _, (VLf.slen (by simp [TE.len, lcopy_length, rcopy_length])), trivial⟩, trivial⟩), rfl, .inl rfl, trivial⟩) ?_
  refine Wk_done ?_
  refine Rgd hT 2 [1, 2, 11, 12, 13] [(13, vi (wr (i6 + 1)))] ?_
  exact oK [1, 2, 11, 12, 13] [(1, 1, 0), (2, 2, 0), (8, 8, 0)] ⟨_, by omega, by omega, l4.set i6.toNat r8, w5, wr (i6 + 1), h, rfl⟩
 refine WA_exit ?_
 refine Qz hT 2 [2] ⟨[(2, bx 2 0)], [(2, cb 0 35 4 (.agg [vi a0.Kind, vi a0.N, vw a0.Name, .sl 8 0 0 (s_Expr.F l4).length false])), (1, cb 0 35 4 (.agg [vi a0.Kind, vi a0.N, vw a0.Name, .sl 8 0 0 (s_Expr.F l4).length false])), (8, rb 0 s_Expr l4)], 1⟩ ?_
 refine aW [2] ⟨[(2, bx 2 0)], [(2, cb 0 35 4 (.agg [vi a0.Kind, vi a0.N, vw a0.Name, .sl 8 0 0 (s_Expr.F l4).length false])), (1, cb 0 35 4 (.agg [vi a0.Kind, vi a0.N, vw a0.Name, .sl 8 0 0 (s_Expr.F l4).length false])), (8, rb 0 s_Expr l4)], 1⟩ ?_
 refine WA_weak (wF 8 0 (rb 0 s_Expr l4) [(2, bx 2 0)] [(2, cb 0 35 4 (.agg [vi a0.Kind, vi a0.N, vw a0.Name, po s_Expr l4])), (1, cb 0 35 4 (.agg [vi a0.Kind, vi a0.N, vw a0.Name, po s_Expr l4]))] ⟨rfl, .keep _, trivial⟩ ⟨rfl, .inr ⟨rfl, rfl, .aggs ⟨.keep _, .keep _, .keep _, .hit false, trivial⟩, trivial⟩, rfl, .inr ⟨rfl, rfl, .aggs ⟨.keep _, .keep _, .keep _, .hit false, trivial⟩, trivial⟩, trivial⟩) ?_
 refine WA_weak (wL [(2, bx 2 0)] [(2, cb 0 35 4 (eExpr (Expr.mk a0.Kind a0.N a0.Name l4))), (1, cb 0 35 4 (.agg [vi a0.Kind, vi a0.N, vw a0.Name, po s_Expr l4]))] ⟨VLf.refl _, trivial⟩ ⟨rfl, .inr (.inl ⟨rfl, rfl, CLe.agg ⟨VLf.refl _, VLf.refl _, VLf.refl _, VLf.refl _, trivial⟩, trivial⟩), rfl, .inl rfl, trivial⟩) ?_
 obtain rfl := Option.some.inj h
 exact rR [(2, 1000, 0)] ⟨[(2, bx 1000 0)], [(1000, cb 0 35 4 (eExpr (Expr.mk a0.Kind a0.N a0.Name l4)))], 1⟩ ⟨by kernel_rfl, rfl⟩
theorem tree_copyExpr_all (n : Nat) : tree_copyExpr_spec n := by
 induction n using Nat.strongRecOn with
 | _ n ih => exact tree_copyExpr_step n ih
theorem tree_copyExpr_ok {n : Nat} {a0 : Expr} {r : Expr} (h : tree_copyExpr n a0 = some r) : PT Try.prog 136 [eExpr a0] (eExpr r) := (tree_copyExpr_all n) h
theorem Clone_Stmt_ok {n : Nat} {a0 : List Stmt} {r : List Stmt} (h : Clone_Stmt n a0 = some r) : GO Try.prog 146 [] [po s_Stmt a0] (vs 100 1 s_Stmt r) [(100, rb 1 s_Stmt r)] := by
 unfold Clone_Stmt at h
 refine GO_bodyA hT Try.func146 rfl [] (by kernel_rfl) fun bad w m => ?_
 refine Qzd hT 1 [0] [] ?_
 refine WA_seq ?_
 refine Qgd hT 1 [0, 3] [(3, po s_Stmt a0)] ?_
 refine WO_isnil' hT s_Stmt rfl (by kernel_rfl) .opt a0 rfl (by kernel_rfl) (by kernel_rfl) ?_
 intro b1 hnil
 cases b1
 ·clear hnil
  refine Szh hT 0 [0, 4] [(4, vb false)] [] 1 ?_
  refine WA_cond false (by kernel_rfl) (fun hb => by cases hb) (fun _ => ?_)
  refine WA_skip ?_
  refine Qg hT 2 [5, 6] ⟨[(5, vs 5 1 s_Stmt ([] : List Stmt)), (6, po s_Stmt a0)], [(5, ⟨1, 38, 11, false, false, s_Stmt.F ([] : List Stmt)⟩)], 2⟩ ?_
  obtain ⟨g2, h⟩ := gsome h
  refine Oa hT s_Stmt 5 1 false ([] : List Stmt) a0 (by kernel_rfl) g2 ?_
  refine Sz hT 1 [2] ⟨[(2, vs 7 2 s_Stmt (([] : List Stmt) ++ a0))], [(7, rb 2 s_Stmt (([] : List Stmt) ++ a0))], 3⟩ ?_
  obtain rfl := Option.some.inj h
  exact rK [2] [(7, 100, 1)] ⟨[(2, vs 100 1 s_Stmt (([] : List Stmt) ++ a0))], [(100, rb 1 s_Stmt (([] : List Stmt) ++ a0))], 2⟩ ⟨by kernel_rfl, by kernel_rfl, rfl⟩
 ·replace h : some ([] : List Stmt) = some r := by (have e := hnil rfl; subst e; first | exact h | (obtain ⟨_, h⟩ := gsome h; simpa using h))
  clear hnil
  refine Szh hT 0 [0, 4] [(4, vb true)] [] 1 ?_
  refine WA_cond true (by kernel_rfl) (fun _ => ?_) (fun hb => by cases hb)
  refine Qz hT 1 [2] ⟨[(2, vn)], [], 1⟩ ?_
  refine aW [2] ⟨[(2, vn)], [], 1⟩ ?_
  refine WA_weak (wO 2 5000 38 11) ?_
  obtain rfl := Option.some.inj h
  exact rK [2] [(5000, 100, 1)] ⟨[(2, vs 100 1 s_Stmt ([] : List Stmt))], [(100, rb 1 s_Stmt ([] : List Stmt))], 2⟩ ⟨by kernel_rfl, by kernel_rfl, rfl⟩
theorem Clip_Stmt_o_ok {n : Nat} {a0 : List Stmt} {r : List Stmt} (h : Clip_Stmt_o n a0 = some r) : GO Try.prog 111 [(0, rb 0 s_Stmt a0)] [vs 0 0 s_Stmt a0] (.sl 100 1 0 (s_Stmt.F r).length false) [(100, rb 1 s_Stmt r)] := by
 unfold Clip_Stmt_o at h
 refine GO_bodyA hT Try.func111 rfl [] (by kernel_rfl) fun bad w m => ?_
 refine Qzd hT 1 [0] [] ?_
 refine Qgd hT 2 [0, 3, 4] [(3, vs 0 0 s_Stmt a0), (4, vs 0 0 s_Stmt a0)] ?_
 refine One' hT rfl (v_len_own s_Stmt 0 0 true (rb 0 s_Stmt a0) a0) ?_
 refine Sgd hT 1 [3, 5, 6] [(5, vi (ln a0)), (6, vs 0 0 s_Stmt a0)] ?_
 refine One' hT rfl (v_len_own s_Stmt 0 0 true (rb 0 s_Stmt a0) a0) ?_
 refine Sgd hT 0 [3, 5, 7] [(7, vi (ln a0))] ?_
 refine WO_clip' hT s_Stmt rfl (by kernel_rfl) 0 0 (s_Stmt.F a0).length true (rb 0 s_Stmt a0) rfl (by kernel_rfl) (by kernel_rfl) rfl (by rw [TE.len]; kernel_rfl) (by rw [TE.len]; kernel_rfl) (by kernel_rfl) ?_
 refine Sz hT 1 [2] ⟨[(2, .sl 0 0 0 (s_Stmt.F a0).length false)], [(0, rb 0 s_Stmt a0)], 1⟩ ?_
 obtain rfl := Option.some.inj h
 exact rK [2] [(0, 100, 1)] ⟨[(2, .sl 100 1 0 (s_Stmt.F a0).length false)], [(100, rb 1 s_Stmt a0)], 2⟩ ⟨by kernel_rfl, by kernel_rfl, rfl⟩
def tree_copyBlock_spec (n : Nat) : Prop := (∀ {a0 : List Stmt} {r : List Stmt}, tree_copyBlock n a0 = some r → GO Try.prog 124 [] [po s_Stmt a0] (.sl 100 1 0 (s_Stmt.F r).length false) [(100, rb 1 s_Stmt r)]) ∧ (∀ {a0 : Stmt} {r : Stmt}, tree_copyStmt n a0 = some r → PT Try.prog 110 [eStmt a0] (eStmt r))
theorem tree_copyBlock_step (n : Nat) (ih : ∀ m, m < n → tree_copyBlock_spec m) : ∀ {a0 : List Stmt} {r : List Stmt}, tree_copyBlock n a0 = some r → GO Try.prog 124 [] [po s_Stmt a0] (.sl 100 1 0 (s_Stmt.F r).length false) [(100, rb 1 s_Stmt r)] := by
 intro a0 r h
 rcases n with _ | n
 ·rw [tree_copyBlock] at h; cases h
 rw [tree_copyBlock] at h
 refine GO_bodyA hT Try.func124 rfl [] (by kernel_rfl) fun bad w m => ?_
 refine Qzd hT 1 [0] [] ?_
 refine Qg hT 1 [6] ⟨[(6, po s_Stmt a0)], [], 1⟩ ?_
 obtain ⟨r1, hr1, h⟩ := bsome h
 refine Og [] [(100, rb 1 s_Stmt r1)] [po s_Stmt a0] [po s_Stmt a0] [] [(100, 7, 1)] [(7, rb 1 s_Stmt r1)] (vs 100 1 s_Stmt r1) (vs 7 1 s_Stmt r1) 2 en146 (Clone_Stmt_ok hr1) ?_
 refine Sg hT 0 [7] ⟨[(7, vs 7 1 s_Stmt r1)], [(7, rb 1 s_Stmt r1)], 2⟩ ?_
 obtain ⟨r2, hr2, h⟩ := bsome h
 refine Og [(0, rb 0 s_Stmt r1)] [(100, rb 1 s_Stmt r2)] [vs 7 1 s_Stmt r1] [vs 0 0 s_Stmt r1] [(7, 0, 0)] [(100, 8, 2)] [(8, rb 2 s_Stmt r2)] (.sl 100 1 0 (s_Stmt.F r2).length false) (.sl 8 2 0 (s_Stmt.F r2).length false) 3 en111 (Clip_Stmt_o_ok hr2) ?_
 refine Sz hT 1 [3] ⟨[(3, .sl 8 2 0 (s_Stmt.F r2).length false)], [(8, rb 2 s_Stmt r2)], 3⟩ ?_
 refine WA_seq ?_
 refine Qgd hT 1 [3, 9] [(9, .sl 8 2 0 (s_Stmt.F r2).length false)] ?_
 refine One' hT rfl (v_len_own s_Stmt 8 2 false (rb 2 s_Stmt r2) r2) ?_
 refine Szd hT 1 [3, 9, 10, 11] [(10, vi (ln r2)), (11, vi 0)] ?_
 refine WA_block ?_
 refine lK [3, 9, 10, 11] [(8, 8, 1)] (fun k s => ∃ q, q ≤ k ∧ q ≤ n ∧ ∃ (l3 : List Stmt), ∃ (i4 : Int), tree_copyBlock_L0 q a0 r1 r2 l3 i4 = some r ∧ s = ⟨[(3, .sl 8 1 0 (s_Stmt.F l3).length false), (9, .sl 8 1 0 (s_Stmt.F l3).length false), (10, vi (ln r2)), (11, vi i4)], [(8, rb 1 s_Stmt l3)], 2⟩) n ⟨n, Nat.le_refl _, Nat.le_refl _, r2, 0, h, rfl⟩ (by rintro s ⟨q, hq, _, l3, i4, h, _⟩; obtain rfl := Nat.le_zero.1 hq; rw [tree_copyBlock_L0] at h; cases h) ?_
 clear h
 rintro k1 s ⟨q1, hk1, hn1, l3, i4, h, rfl⟩
 rcases q1 with _ | q1
 ·rw [tree_copyBlock_L0] at h; cases h
 rw [tree_copyBlock_L0] at h
 refine Qzd hT 1 [3, 9, 10, 11, 12] [(12, vb (decide (i4 < (ln r2))))] ?_
 refine WA_seq ?_
 refine Ci h (fun h => ?_) fun h => ?_
 ·refine WA_skip ?_
  refine WA_seq ?_
  refine WA_block ?_
  refine Qgd hT 1 [3, 9, 10, 11, 13] [(13, vi i4)] ?_
  obtain ⟨x5, hx5, h⟩ := bsome h
  refine One' hT rfl (v_index_own s_Stmt 8 1 false (rb 1 s_Stmt l3) l3 .i64 i4 hx5) ?_
  refine Sgd hT 0 [3, 9, 10, 11, 13, 14] [(14, .box 8 1 i4.toNat 0)] ?_
  refine One' hT rfl (v_load_row s_Stmt 8 1 (rb 1 s_Stmt l3) l3 i4.toNat 0 x5 (eStmt x5) (idx_some hx5).2) ?_
  refine Szh hT 3 [3, 4, 5, 9, 10, 11] [(4, vi i4), (5, bx 5 2)] [(5, cb 2 38 11 (eStmt x5)), (8, rb 1 s_Stmt l3)] 3 ?_
  refine Rgd hT 3 [3, 9, 10, 11, 16, 17, 18] [(16, .sl 8 1 0 (s_Stmt.F l3).length false), (17, vi i4), (18, eStmt x5)] ?_
  obtain ⟨r6, hr6, h⟩ := bsome h
  refine Pt' en110 ((ih _ (by omega)).2 hr6) ?_
  refine Sgd hT 0 [3, 9, 10, 11, 16, 17, 19] [(19, eStmt r6)] ?_
  obtain ⟨x7, hx7, h⟩ := bsome h
  refine One' hT rfl (v_index_own s_Stmt 8 1 false (rb 1 s_Stmt l3) l3 .i64 i4 hx7) ?_
  refine Sg hT 0 [3, 9, 10, 11, 19, 20] ⟨[(3, .sl 8 1 0 (s_Stmt.F l3).length false), (9, .sl 8 1 0 (s_Stmt.F l3).length false), (10, vi (ln r2)), (11, vi i4), (19, eStmt r6), (20, .box 8 1 i4.toNat 0)], [(5, cb 2 38 11 (eStmt x5)), (8, rb 1 s_Stmt l3)], 3⟩ ?_
  refine One' hT rfl (v_storeRow s_Stmt 8 1 (rb 1 s_Stmt l3) l3 i4.toNat 0 x7 r6 (idx_some hx7).2) ?_
  refine oW [3, 9, 10, 11, 19] ⟨[(3, .sl 8 1 0 (s_Stmt.F l3).length false), (9, .sl 8 1 0 (s_Stmt.F l3).length false), (10, vi (ln r2)), (11, vi i4), (19, eStmt r6)], [(8, rb 1 s_Stmt (l3.set i4.toNat r6)), (5, cb 2 38 11 (eStmt x5))], 3⟩ ?_
  refine WO_weak (wL [(3, .sl 8 1 0 (s_Stmt.F (l3.set i4.toNat r6)).length false), (9, .sl 8 1 0 (s_Stmt.F (l3.set i4.toNat r6)).length false), (10, vi (ln r2)), (11, vi i4), (19, eStmt r6)] [(8, rb 1 s_Stmt (l3.set i4.toNat r6)), (5, cb 2 38 11 (eStmt x5))] ⟨(VLf.slen (by simp [TE.len, lcopy_length, rcopy_length])), (VLf.slen (by simp [TE.len, lcopy_length, rcopy_length])), VLf.refl _, VLf.refl _, VLf.refl _, trivial⟩ (HLe.refl _)) ?_
  refine Szh hT 0 [3, 9, 10, 11] [] [(8, rb 1 s_Stmt (l3.set i4.toNat r6)), (5, cb 2 38 11 (eStmt x5))] 3 ?_
  refine Rgd hT 2 [3, 9, 10, 11] [(11, vi (wr (i4 + 1)))] ?_
  exact oK [3, 9, 10, 11] [(8, 8, 1)] ⟨_, by omega, by omega, l3.set i4.toNat r6, wr (i4 + 1), h, rfl⟩
 refine WA_exit ?_
 refine Qzd hT 2 [2] [(2, .sl 8 1 0 (s_Stmt.F l3).length false)] ?_
 obtain rfl := Option.some.inj h
 exact rK [2] [(8, 100, 1)] ⟨[(2, .sl 100 1 0 (s_Stmt.F l3).length false)], [(100, rb 1 s_Stmt l3)], 2⟩ ⟨by kernel_rfl, by kernel_rfl, rfl⟩
theorem tree_copyStmt_step (n : Nat) (ih : ∀ m, m < n → tree_copyBlock_spec m) : ∀ {a0 : Stmt} {r : Stmt}, tree_copyStmt n a0 = some r → PT Try.prog 110 [eStmt a0] (eStmt r) := by
 intro a0 r h
 rcases n with _ | n
 ·rw [tree_copyStmt] at h; cases h
 rw [tree_copyStmt] at h
 refine PT_bodyA hT Try.func110 rfl (by kernel_rfl) fun bad w => ?_
 refine Qz hT 2 [1, 2] ⟨[(1, bx 1 0), (2, bx 2 1)], [(2, cb 1 38 11 (.agg [vi 0, vw b0, vw b0, vi 0, vi 0, vi 0, vw b0, vn, vn, vn, vz c0])), (1, cb 0 38 11 (eStmt a0))], 2⟩ ?_
 refine WA_seq ?_
 refine WA_drawW hT hM (by kernel_rfl) ?_
 refine Ds 2 [(4, eExpr a0.E), (3, .box 1 0 0 4)] [] [(0, [1]), (1, [1])] ?_
 obtain ⟨r1, hr1, h⟩ := bsome h
 refine Dp [eExpr a0.E] (eExpr r1) en136 (tree_copyExpr_ok hr1) ?_
 refine Ds 2 [(7, po s_Stmt a0.Body), (6, .box 1 0 0 8)] [] [(3, [1]), (4, [1])] ?_
 obtain ⟨r2, hr2, h⟩ := bsome h
 refine Dp [po s_Stmt a0.Body] (po s_Stmt r2) en124 (PT_of_GO ((ih _ (by omega)).1 hr2)) ?_
 refine Ds 2 [(10, po s_Stmt a0.Else), (9, .box 1 0 0 9)] [] [(6, [1]), (7, [1])] ?_
 obtain ⟨r3, hr3, h⟩ := bsome h
 refine Dp [po s_Stmt a0.Else] (po s_Stmt r3) en124 (PT_of_GO ((ih _ (by omega)).1 hr3)) ?_
 refine Dh 6 [(14, .box 1 0 0 9), (13, .box 1 0 0 8), (12, .box 1 0 0 4)] [(1, cb 0 38 11 (.agg [vi a0.Kind, vw a0.Name, vw a0.Other, vi a0.N, vi r1.Kind, vi r1.N, vw r1.Name, po s_Expr r1.Of, po s_Stmt r2, po s_Stmt r3, vz a0.At])), (2, cb 1 38 11 (.agg [vi 0, vw b0, vw b0, vi 0, vi 0, vi 0, vw b0, vn, vn, vn, vz c0]))] 2 [(10, [1]), (12, [1]), (14, [1])] [(9, [1]), (11, [1]), (13, [1])] ?_
 refine De ?_
 refine Wk_done ?_
 refine Qz hT 2 [2] ⟨[(2, bx 2 1)], [(2, cb 1 38 11 (.agg [vi a0.Kind, vw a0.Name, vw a0.Other, vi a0.N, vi r1.Kind, vi r1.N, vw r1.Name, po s_Expr r1.Of, po s_Stmt r2, po s_Stmt r3, vz a0.At])), (1, cb 0 38 11 (.agg [vi a0.Kind, vw a0.Name, vw a0.Other, vi a0.N, vi r1.Kind, vi r1.N, vw r1.Name, po s_Expr r1.Of, po s_Stmt r2, po s_Stmt r3, vz a0.At]))], 2⟩ ?_
 refine aW [2] ⟨[(2, bx 2 1)], [(2, cb 1 38 11 (.agg [vi a0.Kind, vw a0.Name, vw a0.Other, vi a0.N, vi r1.Kind, vi r1.N, vw r1.Name, po s_Expr r1.Of, po s_Stmt r2, po s_Stmt r3, vz a0.At])), (1, cb 0 38 11 (.agg [vi a0.Kind, vw a0.Name, vw a0.Other, vi a0.N, vi r1.Kind, vi r1.N, vw r1.Name, po s_Expr r1.Of, po s_Stmt r2, po s_Stmt r3, vz a0.At]))], 2⟩ ?_
 refine WA_weak (wL [(2, bx 2 1)] [(2, cb 1 38 11 (eStmt (Stmt.mk a0.Kind a0.Name a0.Other a0.N r1 r2 r3 a0.At))), (1, cb 0 38 11 (.agg [vi a0.Kind, vw a0.Name, vw a0.Other, vi a0.N, vi r1.Kind, vi r1.N, vw r1.Name, po s_Expr r1.Of, po s_Stmt r2, po s_Stmt r3, vz a0.At]))] ⟨VLf.refl _, trivial⟩ ⟨rfl, .inr (.inl ⟨rfl, rfl, CLe.agg ⟨VLf.refl _, VLf.refl _, VLf.refl _, VLf.refl _, VLf.refl _, VLf.refl _, VLf.refl _, VLf.refl _, VLf.refl _, VLf.refl _, VLf.refl _, trivial⟩, trivial⟩), rfl, .inl rfl, trivial⟩) ?_
 obtain rfl := Option.some.inj h
 exact rR [(2, 1000, 0)] ⟨[(2, bx 1000 0)], [(1000, cb 0 38 11 (eStmt (Stmt.mk a0.Kind a0.Name a0.Other a0.N r1 r2 r3 a0.At)))], 1⟩ ⟨by kernel_rfl, rfl⟩
theorem tree_copyBlock_all (n : Nat) : tree_copyBlock_spec n := by
 induction n using Nat.strongRecOn with
 | _ n ih => exact ⟨tree_copyBlock_step n ih, tree_copyStmt_step n ih⟩
theorem tree_copyStmt_ok {n : Nat} {a0 : Stmt} {r : Stmt} (h : tree_copyStmt n a0 = some r) : PT Try.prog 110 [eStmt a0] (eStmt r) := (tree_copyBlock_all n).2 h
theorem Clip_Stmt_ok {n : Nat} {a0 : List Stmt} {r : List Stmt} (h : Clip_Stmt n a0 = some r) : PT Try.prog 111 [po s_Stmt a0] (.ps .fopt (s_Stmt.F r)) := by
 unfold Clip_Stmt at h
 refine PT_bodyA hT Try.func111 rfl (by kernel_rfl) fun bad w => ?_
 refine Qzd hT 1 [0] [] ?_
 refine Qgd hT 2 [0, 3, 4] [(3, po s_Stmt a0), (4, po s_Stmt a0)] ?_
 refine One' hT rfl (v_len s_Stmt .opt a0) ?_
 refine Sgd hT 1 [3, 5, 6] [(5, vi (ln a0)), (6, po s_Stmt a0)] ?_
 refine One' hT rfl (v_len s_Stmt .opt a0) ?_
 refine Sgd hT 0 [3, 5, 7] [(7, vi (ln a0))] ?_
 obtain ⟨l1, hl1, h⟩ := bsome h
 refine One' hT rfl (v_slice s_Stmt .opt a0 0 (ln a0) (some (ln a0)) l1 .fopt hl1 (by intro y hy; cases hy; rfl)) ?_
 refine Sz hT 1 [2] ⟨[(2, .ps .fopt (s_Stmt.F l1))], [], 0⟩ ?_
 obtain rfl := Option.some.inj h
 exact rK [2] [] ⟨[(2, .ps .fopt (s_Stmt.F l1))], [], 1⟩ ⟨by kernel_rfl, rfl⟩
theorem tree_List_ok {n : Nat} {a0 : Prog} {r : List Stmt} (h : tree_List n a0 = some r) : PT Try.prog 67 [eProg a0] (.ps .fopt (s_Stmt.F r)) := by
 unfold tree_List at h
 refine PT_bodyA hT Try.func67 rfl (by kernel_rfl) fun bad w => ?_
 refine Qz hT 2 [1] ⟨[(1, bx 1 0)], [(1, cb 0 26 2 (eProg a0))], 1⟩ ?_
 refine Qzd hT 1 [1, 3] [(3, vn)] ?_
 refine WA_seq ?_
 refine Qgd hT 2 [3, 9] [(9, po s_LStmt a0.Threads)] ?_
 refine One' hT rfl (v_len s_LStmt .opt a0.Threads) ?_
 refine Szd hT 1 [3, 9, 10, 11] [(10, vi (ln a0.Threads)), (11, vi 0)] ?_
 refine WA_block ?_
 refine aW [3, 9, 10, 11] ⟨[(3, vn), (9, po s_LStmt a0.Threads), (10, vi (ln a0.Threads)), (11, vi 0)], [(1, cb 0 26 2 (eProg a0))], 1⟩ ?_
 refine WA_weak (wO 3 5000 38 11) ?_
 refine lK [3, 9, 10, 11] [(5000, 10003, 0)] (fun k s => ∃ q, q ≤ k ∧ q ≤ n ∧ ∃ (l1 : List Stmt), ∃ (i2 : Int), tree_List_L0 q a0 l1 i2 = some r ∧ s = ⟨[(3, vs 10003 0 s_Stmt l1), (9, po s_LStmt a0.Threads), (10, vi (ln a0.Threads)), (11, vi i2)], [(10003, rb 0 s_Stmt l1)], 1⟩) n ⟨n, Nat.le_refl _, Nat.le_refl _, ([] : List Stmt), 0, h, rfl⟩ (by rintro s ⟨q, hq, _, l1, i2, h, _⟩; obtain rfl := Nat.le_zero.1 hq; rw [tree_List_L0] at h; cases h) ?_
 clear h
 rintro k1 s ⟨q1, hk1, hn1, l1, i2, h, rfl⟩
 rcases q1 with _ | q1
 ·rw [tree_List_L0] at h; cases h
 rw [tree_List_L0] at h
 refine Qzd hT 1 [3, 9, 10, 11, 12] [(12, vb (decide (i2 < (ln a0.Threads))))] ?_
 refine WA_seq ?_
 refine Ci h (fun h => ?_) fun h => ?_
 ·refine WA_skip ?_
  refine WA_seq ?_
  refine WA_block ?_
  refine Qgd hT 0 [3, 9, 10, 11] [] ?_
  obtain ⟨x3, hx3, h⟩ := bsome h
  refine One' hT rfl (v_index s_LStmt .opt a0.Threads .i64 i2 hx3) ?_
  refine Sz hT 2 [3, 5, 9, 10, 11] ⟨[(3, vs 10003 0 s_Stmt l1), (5, po s_Stmt x3), (9, po s_LStmt a0.Threads), (10, vi (ln a0.Threads)), (11, vi i2)], [(10003, rb 0 s_Stmt l1)], 1⟩ ?_
  refine Rgd hT 2 [9, 10, 11, 15, 16] [(15, vs 10003 0 s_Stmt l1), (16, po s_Stmt x3)] ?_
  obtain ⟨r4, hr4, h⟩ := bsome h
  refine Og [(0, rb 0 s_Stmt l1)] [(100, rb 1 s_Stmt r4)] [vs 10003 0 s_Stmt l1, po s_Stmt x3] [vs 0 0 s_Stmt l1, po s_Stmt x3] [(10003, 0, 0)] [(100, 17, 1)] [(17, rb 1 s_Stmt r4)] (vs 100 1 s_Stmt r4) (vs 17 1 s_Stmt r4) 2 en109 (tree_listed_o_ok hr4) ?_
  refine Szh hT 1 [3, 9, 10, 11] [(3, vs 17 1 s_Stmt r4)] [(17, rb 1 s_Stmt r4)] 2 ?_
  refine Rgd hT 2 [3, 9, 10, 11] [(11, vi (wr (i2 + 1)))] ?_
  exact oK [3, 9, 10, 11] [(17, 10003, 0)] ⟨_, by omega, by omega, r4, wr (i2 + 1), h, rfl⟩
 refine WA_exit ?_
 refine WA_seq ?_
 refine Qgd hT 1 [3, 19] [(19, vs 10003 0 s_Stmt l1)] ?_
 refine One' hT rfl (v_len_own s_Stmt 10003 0 true (rb 0 s_Stmt l1) l1) ?_
 refine Szd hT 1 [3, 19, 20, 21] [(20, vi (ln l1)), (21, vi 0)] ?_
 refine WA_block ?_
 refine lK [3, 19, 20, 21] [(10003, 10003, 0)] (fun k s => ∃ q, q ≤ k ∧ q ≤ q1 ∧ ∃ (l5 : List Stmt), ∃ (i6 : Int), tree_List_L1 q a0 l1 i2 l5 i6 = some r ∧ s = ⟨[(3, vs 10003 0 s_Stmt l5), (19, vs 10003 0 s_Stmt l5), (20, vi (ln l1)), (21, vi i6)], [(10003, rb 0 s_Stmt l5)], 1⟩) q1 ⟨q1, Nat.le_refl _, Nat.le_refl _, l1, 0, h, rfl⟩ (by rintro s ⟨q, hq, _, l5, i6, h, _⟩; obtain rfl := Nat.le_zero.1 hq; rw [tree_List_L1] at h; cases h) ?_
 clear h
 rintro k2 s ⟨q2, hk2, hn2, l5, i6, h, rfl⟩
 rcases q2 with _ | q2
 ·rw [tree_List_L1] at h; cases h
 rw [tree_List_L1] at h
 refine Qzd hT 1 [3, 19, 20, 21, 22] [(22, vb (decide (i6 < (ln l1))))] ?_
 refine WA_seq ?_
 refine Ci h (fun h => ?_) fun h => ?_
 ·refine WA_skip ?_
  refine WA_seq ?_
  refine WA_block ?_
  refine Qgd hT 1 [3, 19, 20, 21, 23] [(23, vi i6)] ?_
  obtain ⟨x7, hx7, h⟩ := bsome h
  refine One' hT rfl (v_index_own s_Stmt 10003 0 true (rb 0 s_Stmt l5) l5 .i64 i6 hx7) ?_
  refine Sgd hT 0 [3, 19, 20, 21, 23, 24] [(24, .box 10003 0 i6.toNat 0)] ?_
  refine One' hT rfl (v_load_row s_Stmt 10003 0 (rb 0 s_Stmt l5) l5 i6.toNat 0 x7 (eStmt x7) (idx_some hx7).2) ?_
  refine Sz hT 3 [3, 6, 7, 19, 20, 21] ⟨[(3, vs 10003 0 s_Stmt l5), (6, vi i6), (7, bx 7 1), (19, vs 10003 0 s_Stmt l5), (20, vi (ln l1)), (21, vi i6)], [(7, cb 1 38 11 (eStmt x7)), (10003, rb 0 s_Stmt l5)], 2⟩ ?_
  refine Rgd hT 3 [3, 19, 20, 21, 26, 27, 28] [(26, vs 10003 0 s_Stmt l5), (27, vi i6), (28, eStmt x7)] ?_
  obtain ⟨r8, hr8, h⟩ := bsome h
  refine Pt' en110 (tree_copyStmt_ok hr8) ?_
  refine Sgd hT 0 [3, 19, 20, 21, 26, 27, 29] [(29, eStmt r8)] ?_
  obtain ⟨x9, hx9, h⟩ := bsome h
  refine One' hT rfl (v_index_own s_Stmt 10003 0 true (rb 0 s_Stmt l5) l5 .i64 i6 hx9) ?_
  refine Sgd hT 0 [3, 19, 20, 21, 29, 30] [(30, .box 10003 0 i6.toNat 0)] ?_
  refine One' hT rfl (v_storeRow s_Stmt 10003 0 (rb 0 s_Stmt l5) l5 i6.toNat 0 x9 r8 (idx_some hx9).2) ?_
  refine oW [3, 19, 20, 21, 29] ⟨[(3, vs 10003 0 s_Stmt l5), (19, vs 10003 0 s_Stmt l5), (20, vi (ln l1)), (21, vi i6), (29, eStmt r8)], [(10003, rb 0 s_Stmt (l5.set i6.toNat r8)), (7, cb 1 38 11 (eStmt x7))], 2⟩ ?_
  refine WO_weak (wL [(3, vs 10003 0 s_Stmt (l5.set i6.toNat r8)), (19, vs 10003 0 s_Stmt (l5.set i6.toNat r8)), (20, vi (ln l1)), (21, vi i6), (29, eStmt r8)] [(10003, rb 0 s_Stmt (l5.set i6.toNat r8)), (7, cb 1 38 11 (eStmt x7))] ⟨(VLf.slen (by simp [TE.len, lcopy_length, rcopy_length])), (VLf.slen (by simp [TE.len, lcopy_length, rcopy_length])), VLf.refl _, VLf.refl _, VLf.refl _, trivial⟩ (HLe.refl _)) ?_
  refine Szh hT 0 [3, 19, 20, 21] [] [(10003, rb 0 s_Stmt (l5.set i6.toNat r8)), (7, cb 1 38 11 (eStmt x7))] 2 ?_
  refine Rgd hT 2 [3, 19, 20, 21] [(21, vi (wr (i6 + 1)))] ?_
  exact oK [3, 19, 20, 21] [(10003, 10003, 0)] ⟨_, by omega, by omega, l5.set i6.toNat r8, wr (i6 + 1), h, rfl⟩
 refine WA_exit ?_
 refine Qgd hT 1 [32] [(32, vs 10003 0 s_Stmt l5)] ?_
 refine WO_weak (wF 10003 0 (rb 0 s_Stmt l5) [(32, po s_Stmt l5)] [] ⟨rfl, .hit true, trivial⟩ trivial) ?_
 obtain ⟨r10, hr10, h⟩ := bsome h
 refine Pt' en111 (Clip_Stmt_ok hr10) ?_
 refine Sz hT 1 [2] ⟨[(2, .ps .fopt (s_Stmt.F r10))], [], 1⟩ ?_
 obtain rfl := Option.some.inj h
 exact rK [2] [] ⟨[(2, .ps .fopt (s_Stmt.F r10))], [], 1⟩ ⟨by kernel_rfl, rfl⟩
theorem Clip_string_ok {n : Nat} {a0 : List ByteArray} {r : List ByteArray} (h : Clip_string n a0 = some r) : PT Try.prog 138 [po s_string a0] (.ps .fopt (s_string.F r)) := by
 unfold Clip_string at h
 refine PT_bodyA hT Try.func138 rfl (by kernel_rfl) fun bad w => ?_
 refine Qzd hT 1 [0] [] ?_
 refine Qgd hT 2 [0, 3, 4] [(3, po s_string a0), (4, po s_string a0)] ?_
 refine One' hT rfl (v_len s_string .opt a0) ?_
 refine Sgd hT 1 [3, 5, 6] [(5, vi (ln a0)), (6, po s_string a0)] ?_
 refine One' hT rfl (v_len s_string .opt a0) ?_
 refine Sgd hT 0 [3, 5, 7] [(7, vi (ln a0))] ?_
 obtain ⟨l1, hl1, h⟩ := bsome h
 refine One' hT rfl (v_slice s_string .opt a0 0 (ln a0) (some (ln a0)) l1 .fopt hl1 (by intro y hy; cases hy; rfl)) ?_
 refine Sz hT 1 [2] ⟨[(2, .ps .fopt (s_string.F l1))], [], 0⟩ ?_
 obtain rfl := Option.some.inj h
 exact rK [2] [] ⟨[(2, .ps .fopt (s_string.F l1))], [], 1⟩ ⟨by kernel_rfl, rfl⟩
def tree_Names_spec (n : Nat) : Prop := (∀ {a0 : Expr} {r : List ByteArray}, tree_Names n a0 = some r → PT Try.prog 137 [eExpr a0] (.ps .fopt (s_string.F r)))
theorem tree_Names_step (n : Nat) (ih : ∀ m, m < n → tree_Names_spec m) : ∀ {a0 : Expr} {r : List ByteArray}, tree_Names n a0 = some r → PT Try.prog 137 [eExpr a0] (.ps .fopt (s_string.F r)) := by
 intro a0 r h
 rcases n with _ | n
 ·rw [tree_Names] at h; cases h
 rw [tree_Names] at h
 refine PT_bodyA hT Try.func137 rfl (by kernel_rfl) fun bad w => ?_
 refine Qz hT 2 [1] ⟨[(1, bx 1 0)], [(1, cb 0 35 4 (eExpr a0))], 1⟩ ?_
 refine Qzd hT 1 [1, 3] [(3, vn)] ?_
 refine WA_seq ?_
 refine Qzd hT 3 [1, 3, 8] [(8, vb (a0.Kind == 2))] ?_
 obtain ⟨J2, hJ2, h⟩ := jsome h
 refine WA_join (fun s => ∃ (l1 : List ByteArray), J2 l1 = some r ∧ s = ⟨[(1, bx 1 0), (3, vs 10003 0 s_string l1)], [(1, cb 0 35 4 (eExpr a0)), (10003, rb 0 s_string l1)], 1⟩) ?_ ?_
 ·refine Ci h (fun h => ?_) fun h => ?_
  ·refine Rg hT 4 [1, 9, 12] ⟨[(1, bx 1 0), (9, vn), (12, vs 12 1 s_string [a0.Name])], [(12, ⟨1, 9, 1, false, false, s_string.F [a0.Name]⟩), (1, cb 0 35 4 (eExpr a0))], 2⟩ ?_
   refine WO_weak (wO 9 6013 9 1) ?_
   obtain ⟨g3, h⟩ := gsome h
   refine Oa hT s_string 6013 2 true ([] : List ByteArray) [a0.Name] (eO s_string 12 1 true ⟨1, 9, 1, false, false, s_string.F [a0.Name]⟩ [a0.Name]) g3 ?_
   refine Sg hT 1 [1, 3] ⟨[(1, bx 1 0), (3, vs 13 3 s_string (([] : List ByteArray) ++ [a0.Name]))], [(13, rb 3 s_string (([] : List ByteArray) ++ [a0.Name])), (12, ⟨1, 9, 1, false, false, s_string.F [a0.Name]⟩), (1, cb 0 35 4 (eExpr a0))], 4⟩ ?_
   exact oK [1, 3] [(1, 1, 0), (13, 10003, 0)] ⟨([] : List ByteArray) ++ [a0.Name], h, rfl⟩
  refine aW [1, 3] ⟨[(1, bx 1 0), (3, vn)], [(1, cb 0 35 4 (eExpr a0))], 1⟩ ?_
  refine WA_weak (wO 3 5000 9 1) ?_
  exact sK [1, 3] [(1, 1, 0), (5000, 10003, 0)] ⟨([] : List ByteArray), h, rfl⟩
 subst hJ2
 rintro s ⟨l1, h, rfl⟩
 refine WA_seq ?_
 refine Qgd hT 2 [3, 15] [(15, po s_Expr a0.Of)] ?_
 refine One' hT rfl (v_len s_Expr .opt a0.Of) ?_
 refine Szd hT 1 [3, 15, 16, 17] [(16, vi (ln a0.Of)), (17, vi 0)] ?_
 refine WA_block ?_
 refine lK [3, 15, 16, 17] [(10003, 10003, 0)] (fun k s => ∃ q, q ≤ k ∧ q ≤ n ∧ ∃ (l4 : List ByteArray), ∃ (i5 : Int), tree_Names_L0 q a0 l1 l4 i5 = some r ∧ s = ⟨[(3, vs 10003 0 s_string l4), (15, po s_Expr a0.Of), (16, vi (ln a0.Of)), (17, vi i5)], [(10003, rb 0 s_string l4)], 1⟩) n ⟨n, Nat.le_refl _, Nat.le_refl _, l1, 0, h, rfl⟩ (by rintro s ⟨q, hq, _, l4, i5, h, _⟩; obtain rfl := Nat.le_zero.1 hq; rw [tree_Names_L0] at h; cases h) ?_
 clear h
 rintro k1 s ⟨q1, hk1, hn1, l4, i5, h, rfl⟩
 rcases q1 with _ | q1
 ·rw [tree_Names_L0] at h; cases h
 rw [tree_Names_L0] at h
 refine Qzd hT 1 [3, 15, 16, 17, 18] [(18, vb (decide (i5 < (ln a0.Of))))] ?_
 refine WA_seq ?_
 refine Ci h (fun h => ?_) fun h => ?_
 ·refine WA_skip ?_
  refine WA_seq ?_
  refine WA_block ?_
  refine Qg hT 0 [3, 15, 16, 17] ⟨[(3, vs 10003 0 s_string l4), (15, po s_Expr a0.Of), (16, vi (ln a0.Of)), (17, vi i5)], [(10003, rb 0 s_string l4)], 1⟩ ?_
  obtain ⟨x6, hx6, h⟩ := bsome h
  refine One' hT rfl (v_index s_Expr .opt a0.Of .i64 i5 hx6) ?_
  refine Szh hT 3 [3, 5, 15, 16, 17] [(5, bx 5 1)] [(5, cb 1 35 4 (eExpr x6)), (10003, rb 0 s_string l4)] 2 ?_
  refine Rgd hT 2 [15, 16, 17, 21, 22] [(21, vs 10003 0 s_string l4), (22, eExpr x6)] ?_
  obtain ⟨r7, hr7, h⟩ := bsome h
  refine Pt' en137 ((ih _ (by omega)) hr7) ?_
  refine Sgd hT 0 [15, 16, 17, 21, 23] [(23, .ps .fopt (s_string.F r7))] ?_
  obtain ⟨g8, h⟩ := gsome h
  refine Oa hT s_string 10003 0 true l4 r7 (by kernel_rfl) g8 ?_
  refine Szh hT 1 [3, 15, 16, 17] [(3, vs 24 2 s_string (l4 ++ r7))] [(24, rb 2 s_string (l4 ++ r7)), (5, cb 1 35 4 (eExpr x6))] 3 ?_
  refine Rgd hT 2 [3, 15, 16, 17] [(17, vi (wr (i5 + 1)))] ?_
  exact oK [3, 15, 16, 17] [(24, 10003, 0)] ⟨_, by omega, by omega, l4 ++ r7, wr (i5 + 1), h, rfl⟩
 refine WA_exit ?_
 refine Qgd hT 1 [26] [(26, vs 10003 0 s_string l4)] ?_
 refine WO_weak (wF 10003 0 (rb 0 s_string l4) [(26, po s_string l4)] [] ⟨rfl, .hit true, trivial⟩ trivial) ?_
 obtain ⟨r9, hr9, h⟩ := bsome h
 refine Pt' en138 (Clip_string_ok hr9) ?_
 refine Sz hT 1 [2] ⟨[(2, .ps .fopt (s_string.F r9))], [], 1⟩ ?_
 obtain rfl := Option.some.inj h
 exact rK [2] [] ⟨[(2, .ps .fopt (s_string.F r9))], [], 1⟩ ⟨by kernel_rfl, rfl⟩
theorem tree_Names_all (n : Nat) : tree_Names_spec n := by
 induction n using Nat.strongRecOn with
 | _ n ih => exact tree_Names_step n ih
theorem tree_Names_ok {n : Nat} {a0 : Expr} {r : List ByteArray} (h : tree_Names n a0 = some r) : PT Try.prog 137 [eExpr a0] (.ps .fopt (s_string.F r)) := (tree_Names_all n) h
theorem tree_Touches_ok {n : Nat} {a0 : Stmt} {r : List ByteArray} (h : tree_Touches n a0 = some r) : PT Try.prog 112 [eStmt a0] (.ps .fopt (s_string.F r)) := by
 unfold tree_Touches at h
 refine PT_bodyA hT Try.func112 rfl (by kernel_rfl) fun bad w => ?_
 refine Qz hT 2 [1] ⟨[(1, bx 1 0)], [(1, cb 0 38 11 (eStmt a0))], 1⟩ ?_
 refine Qzd hT 1 [1, 3] [(3, vn)] ?_
 refine WA_seq ?_
 refine Qzd hT 2 [1, 3, 5] [(5, vi a0.Kind)] ?_
 obtain ⟨J2, hJ2, h⟩ := jsome h
 refine WA_join (fun s => ∃ (l1 : List ByteArray), J2 l1 = some r ∧ s = ⟨[(1, bx 1 0), (3, .ps .fopt (s_string.F l1))], [(1, cb 0 38 11 (eStmt a0))], 1⟩) ?_ ?_
 ·refine WA_block ?_
  refine WA_seq ?_
  refine Qzd hT 2 [1, 3, 5, 6] [(6, vb (a0.Kind == 1))] ?_
  obtain ⟨J4, hJ4, h⟩ := jsome h
  refine WA_join (fun s => ∃ (b3 : Bool), J4 b3 = some r ∧ s = ⟨[(1, bx 1 0), (3, vn), (6, vb b3)], [(1, cb 0 38 11 (eStmt a0))], 1⟩) ?_ ?_
  ·refine Ci h (fun h => ?_) fun h => ?_
   ·exact sK [1, 3, 6] [(1, 1, 0)] ⟨(a0.Kind == 1), h, rfl⟩
   refine Qzd hT 2 [1, 3, 5, 6] [(6, vb (a0.Kind == 4))] ?_
   refine Ci h (fun h => ?_) fun h => ?_
   ·exact sK [1, 3, 6] [(1, 1, 0)] ⟨(a0.Kind == 4), h, rfl⟩
   refine Qzd hT 2 [1, 3, 5, 6] [(6, vb (a0.Kind == 6))] ?_
   refine Ci h (fun h => ?_) fun h => ?_
   ·exact sK [1, 3, 6] [(1, 1, 0)] ⟨(a0.Kind == 6), h, rfl⟩
   refine Rg hT 2 [1, 3, 6] ⟨[(1, bx 1 0), (3, vn), (6, vb (a0.Kind == 7))], [(1, cb 0 38 11 (eStmt a0))], 1⟩ ?_
   exact oK [1, 3, 6] [(1, 1, 0)] ⟨(a0.Kind == 7), h, rfl⟩
  subst hJ4
  rintro s ⟨b3, h, rfl⟩
  skip
  refine Ci h (fun h => ?_) fun h => ?_
  ·refine Rgd hT 2 [1, 12] [(12, eExpr a0.E)] ?_
   obtain ⟨r5, hr5, h⟩ := bsome h
   refine Pt' en137 (tree_Names_ok hr5) ?_
   refine Sgd hT 1 [1, 3] [(3, .ps .fopt (s_string.F r5))] ?_
   exact oK [1, 3] [(1, 1, 0)] ⟨r5, h, rfl⟩
  refine aW [1, 3] ⟨[(1, bx 1 0), (3, vn)], [(1, cb 0 38 11 (eStmt a0))], 1⟩ ?_
  refine WA_weak (wL [(1, bx 1 0), (3, .ps .fopt (s_string.F []))] [(1, cb 0 38 11 (eStmt a0))] ⟨VLf.refl _, (VLe.f VLe.nil_fopt rfl), trivial⟩ ⟨rfl, .inl rfl, trivial⟩) ?_
  exact sR [(1, 1, 0)] ⟨[], h, rfl⟩
 subst hJ2
 rintro s ⟨l1, h, rfl⟩
 refine WA_seq ?_
 refine Qzd hT 2 [1, 3, 15] [(15, vi a0.Kind)] ?_
 obtain ⟨J7, hJ7, h⟩ := jsome h
 refine WA_join (fun s => ∃ (l6 : List ByteArray), J7 l6 = some r ∧ s = ⟨[(3, po s_string l6)], [], 1⟩) ?_ ?_
 ·refine WA_block ?_
  refine Qzd hT 2 [1, 3, 15, 16] [(16, vb (a0.Kind == 1))] ?_
  refine Ci h (fun h => ?_) fun h => ?_
  ·refine Rg hT 4 [18, 21] ⟨[(18, .ps .fopt (s_string.F l1)), (21, vs 21 1 s_string [a0.Name])], [(21, ⟨1, 9, 1, false, false, s_string.F [a0.Name]⟩), (1, cb 0 38 11 (eStmt a0))], 2⟩ ?_
   obtain ⟨g8, h⟩ := gsome h
   refine One' hT rfl (ev_appendF s_string .fopt l1 [a0.Name] (by decide) (by kernel_rfl) (eO s_string 21 1 true ⟨1, 9, 1, false, false, s_string.F [a0.Name]⟩ [a0.Name]) (by simp) g8) ?_
   refine Sg hT 1 [3] ⟨[(3, vs 22 2 s_string (l1 ++ [a0.Name]))], [(22, ⟨2, 9, 1, false, false, s_string.F (l1 ++ [a0.Name])⟩), (21, ⟨1, 9, 1, false, false, s_string.F [a0.Name]⟩), (1, cb 0 38 11 (eStmt a0))], 3⟩ ?_
   refine oW [3] ⟨[(3, vs 22 2 s_string (l1 ++ [a0.Name]))], [(22, ⟨2, 9, 1, false, false, s_string.F (l1 ++ [a0.Name])⟩), (21, ⟨1, 9, 1, false, false, s_string.F [a0.Name]⟩), (1, cb 0 38 11 (eStmt a0))], 3⟩ ?_
   refine WO_weak (wF 22 2 ⟨2, 9, 1, false, false, s_string.F (l1 ++ [a0.Name])⟩ [(3, po s_string (l1 ++ [a0.Name]))] [(21, ⟨1, 9, 1, false, false, s_string.F [a0.Name]⟩), (1, cb 0 38 11 (eStmt a0))] ⟨rfl, .hit true, trivial⟩ ⟨rfl, .inl rfl, rfl, .inl rfl, trivial⟩) ?_
   exact oR [] ⟨l1 ++ [a0.Name], h, rfl⟩
  refine Qzd hT 2 [1, 3, 23] [(23, vb (a0.Kind == 5))] ?_
  refine Ci h (fun h => ?_) fun h => ?_
  ·refine Rg hT 4 [25, 28] ⟨[(25, .ps .fopt (s_string.F l1)), (28, vs 28 1 s_string [a0.Other])], [(28, ⟨1, 9, 1, false, false, s_string.F [a0.Other]⟩), (1, cb 0 38 11 (eStmt a0))], 2⟩ ?_
   obtain ⟨g9, h⟩ := gsome h
   refine One' hT rfl (ev_appendF s_string .fopt l1 [a0.Other] (by decide) (by kernel_rfl) (eO s_string 28 1 true ⟨1, 9, 1, false, false, s_string.F [a0.Other]⟩ [a0.Other]) (by simp) g9) ?_
   refine Sg hT 1 [3] ⟨[(3, vs 29 2 s_string (l1 ++ [a0.Other]))], [(29, ⟨2, 9, 1, false, false, s_string.F (l1 ++ [a0.Other])⟩), (28, ⟨1, 9, 1, false, false, s_string.F [a0.Other]⟩), (1, cb 0 38 11 (eStmt a0))], 3⟩ ?_
   refine oW [3] ⟨[(3, vs 29 2 s_string (l1 ++ [a0.Other]))], [(29, ⟨2, 9, 1, false, false, s_string.F (l1 ++ [a0.Other])⟩), (28, ⟨1, 9, 1, false, false, s_string.F [a0.Other]⟩), (1, cb 0 38 11 (eStmt a0))], 3⟩ ?_
   refine WO_weak (wF 29 2 ⟨2, 9, 1, false, false, s_string.F (l1 ++ [a0.Other])⟩ [(3, po s_string (l1 ++ [a0.Other]))] [(28, ⟨1, 9, 1, false, false, s_string.F [a0.Other]⟩), (1, cb 0 38 11 (eStmt a0))] ⟨rfl, .hit true, trivial⟩ ⟨rfl, .inl rfl, rfl, .inl rfl, trivial⟩) ?_
   exact oR [] ⟨l1 ++ [a0.Other], h, rfl⟩
  refine aW [3] ⟨[(3, .ps .fopt (s_string.F l1))], [(1, cb 0 38 11 (eStmt a0))], 1⟩ ?_
  refine WA_weak (wL [(3, po s_string l1)] [(1, cb 0 38 11 (eStmt a0))] ⟨(VLe.f VLe.fopt_opt rfl), trivial⟩ ⟨rfl, .inl rfl, trivial⟩) ?_
  exact sR [] ⟨l1, h, rfl⟩
 subst hJ7
 rintro s ⟨l6, h, rfl⟩
 refine Qg hT 1 [30] ⟨[(30, po s_string l6)], [], 1⟩ ?_
 obtain ⟨r10, hr10, h⟩ := bsome h
 refine Pt' en138 (Clip_string_ok hr10) ?_
 refine Sz hT 1 [2] ⟨[(2, .ps .fopt (s_string.F r10))], [], 1⟩ ?_
 obtain rfl := Option.some.inj h
 exact rK [2] [] ⟨[(2, .ps .fopt (s_string.F r10))], [], 1⟩ ⟨by kernel_rfl, rfl⟩
theorem Index_string_ok {n : Nat} {a0 : List ByteArray} {a1 : ByteArray} {r : Int} (h : Index_string n a0 a1 = some r) : PT Try.prog 126 [po s_string a0, vw a1] (vi r) := by
 unfold Index_string at h
 refine PT_bodyA hT Try.func126 rfl (by kernel_rfl) fun bad w => ?_
 refine Qzd hT 1 [0, 1] [] ?_
 refine WA_seq ?_
 refine Qgd hT 1 [0, 1, 6] [(6, po s_string a0)] ?_
 refine One' hT rfl (v_len s_string .opt a0) ?_
 refine Szd hT 1 [0, 1, 7, 8] [(7, vi (ln a0)), (8, vi 0)] ?_
 refine WA_block ?_
 refine lK [0, 1, 7, 8] [] (fun k s => ∃ q, q ≤ k ∧ q ≤ n ∧ ∃ (i1 : Int), Index_string_L0 q a0 a1 i1 = some r ∧ s = ⟨[(0, po s_string a0), (1, vw a1), (7, vi (ln a0)), (8, vi i1)], [], 1⟩) n ⟨n, Nat.le_refl _, Nat.le_refl _, 0, h, rfl⟩ (by rintro s ⟨q, hq, _, i1, h, _⟩; obtain rfl := Nat.le_zero.1 hq; rw [Index_string_L0] at h; cases h) ?_
 clear h
 rintro k1 s ⟨q1, hk1, hn1, i1, h, rfl⟩
 rcases q1 with _ | q1
 ·rw [Index_string_L0] at h; cases h
 rw [Index_string_L0] at h
 refine Qzd hT 1 [0, 1, 7, 8, 9] [(9, vb (decide (i1 < (ln a0))))] ?_
 refine WA_seq ?_
 refine Ci h (fun h => ?_) fun h => ?_
 ·refine WA_skip ?_
  refine WA_seq ?_
  refine WA_block ?_
  refine Qzd hT 2 [0, 1, 5, 7, 8] [(5, vi i1)] ?_
  refine Qgd hT 3 [0, 1, 5, 7, 8, 11, 12, 13] [(11, vw a1), (12, po s_string a0), (13, vi i1)] ?_
  obtain ⟨x2, hx2, h⟩ := bsome h
  refine One' hT rfl (v_index s_string .opt a0 .i64 i1 hx2) ?_
  refine Szd hT 2 [0, 1, 5, 7, 8, 16] [(16, vb (bytesEq a1 x2))] ?_
  refine Ci h (fun h => ?_) fun h => ?_
  ·refine Qz hT 2 [4] ⟨[(4, vi i1)], [], 1⟩ ?_
   obtain rfl := Option.some.inj h
   exact rK [4] [] ⟨[(4, vi i1)], [], 1⟩ ⟨by kernel_rfl, rfl⟩
  refine WA_skip ?_
  refine Rgd hT 2 [0, 1, 7, 8] [(8, vi (wr (i1 + 1)))] ?_
  exact oK [0, 1, 7, 8] [] ⟨_, by omega, by omega, wr (i1 + 1), h, rfl⟩
 refine WA_exit ?_
 refine Qz hT 1 [4] ⟨[(4, vi (-1))], [], 1⟩ ?_
 obtain rfl := Option.some.inj h
 exact rK [4] [] ⟨[(4, vi (-1))], [], 1⟩ ⟨by kernel_rfl, rfl⟩
theorem Contains_string_ok {n : Nat} {a0 : List ByteArray} {a1 : ByteArray} {r : Bool} (h : Contains_string n a0 a1 = some r) : PT Try.prog 85 [po s_string a0, vw a1] (vb r) := by
 unfold Contains_string at h
 refine PT_bodyA hT Try.func85 rfl (by kernel_rfl) fun bad w => ?_
 refine Qzd hT 1 [0, 1] [] ?_
 refine Qg hT 2 [5, 6] ⟨[(5, po s_string a0), (6, vw a1)], [], 0⟩ ?_
 obtain ⟨r1, hr1, h⟩ := bsome h
 refine Pt' en126 (Index_string_ok hr1) ?_
 refine Sz hT 2 [4] ⟨[(4, vb (decide (r1 ≥ 0)))], [], 0⟩ ?_
 obtain rfl := Option.some.inj h
 exact rK [4] [] ⟨[(4, vb (decide (r1 ≥ 0)))], [], 1⟩ ⟨by kernel_rfl, rfl⟩
theorem cost_touches_1_ok {n : Nat} {a0 : ByteArray} {a1 : List ByteArray} {r : Bool} (h : cost_touches_1 n a0 a1 = some r) : PT Try.prog 128 [vw a0, .ref (el_string a1) 0] (vb r) := by
 unfold cost_touches_1 at h
 refine PT_bodyA hT Try.func128 rfl (by kernel_rfl) fun bad w => ?_
 refine Qzd hT 1 [0, 1] [] ?_
 refine Qg hT 2 [4, 5] ⟨[(4, po s_string a1), (5, vw a0)], [], 0⟩ ?_
 obtain ⟨r1, hr1, h⟩ := bsome h
 refine Pt' en85 (Contains_string_ok hr1) ?_
 refine Sz hT 1 [3] ⟨[(3, vb r1)], [], 0⟩ ?_
 obtain rfl := Option.some.inj h
 exact rK [3] [] ⟨[(3, vb r1)], [], 1⟩ ⟨by kernel_rfl, rfl⟩
theorem IndexFunc_string_fcost_touches_1_ok {n : Nat} {a0 : List ByteArray} {a1c0 : List ByteArray} {r : Int} (h : IndexFunc_string_fcost_touches_1 n a0 a1c0 = some r) : PT Try.prog 147 [po s_string a0, .fn 128 [] [.ref (el_string a1c0) 0]] (vi r) := by
 unfold IndexFunc_string_fcost_touches_1 at h
 refine PT_bodyA hT Try.func147 rfl (by kernel_rfl) fun bad w => ?_
 refine Qzd hT 1 [0, 1] [] ?_
 refine WA_seq ?_
 refine Qgd hT 1 [0, 1, 6] [(6, po s_string a0)] ?_
 refine One' hT rfl (v_len s_string .opt a0) ?_
 refine Szd hT 1 [0, 1, 7, 8] [(7, vi (ln a0)), (8, vi 0)] ?_
 refine WA_block ?_
 refine lK [0, 1, 7, 8] [] (fun k s => ∃ q, q ≤ k ∧ q ≤ n ∧ ∃ (i1 : Int), IndexFunc_string_fcost_touches_1_L0 q a0 a1c0 i1 = some r ∧ s = ⟨[(0, po s_string a0), (1, .fn 128 [] [.ref (el_string a1c0) 0]), (7, vi (ln a0)), (8, vi i1)], [], 1⟩) n ⟨n, Nat.le_refl _, Nat.le_refl _, 0, h, rfl⟩ (by rintro s ⟨q, hq, _, i1, h, _⟩; obtain rfl := Nat.le_zero.1 hq; rw [IndexFunc_string_fcost_touches_1_L0] at h; cases h) ?_
 clear h
 rintro k1 s ⟨q1, hk1, hn1, i1, h, rfl⟩
 rcases q1 with _ | q1
 ·rw [IndexFunc_string_fcost_touches_1_L0] at h; cases h
 rw [IndexFunc_string_fcost_touches_1_L0] at h
 refine Qzd hT 1 [0, 1, 7, 8, 9] [(9, vb (decide (i1 < (ln a0))))] ?_
 refine WA_seq ?_
 refine Ci h (fun h => ?_) fun h => ?_
 ·refine WA_skip ?_
  refine WA_seq ?_
  refine WA_block ?_
  refine Qzd hT 2 [0, 1, 5, 7, 8] [(5, vi i1)] ?_
  refine Qgd hT 3 [0, 1, 5, 7, 8, 11, 12, 13] [(11, .fn 128 [] [.ref (el_string a1c0) 0]), (12, po s_string a0), (13, vi i1)] ?_
  obtain ⟨x2, hx2, h⟩ := bsome h
  refine One' hT rfl (v_index s_string .opt a0 .i64 i1 hx2) ?_
  refine Sgd hT 1 [0, 1, 5, 7, 8, 11, 15] [(15, vw x2)] ?_
  obtain ⟨r3, hr3, h⟩ := bsome h
  refine Pt' en128 (cost_touches_1_ok hr3) ?_
  refine Szd hT 0 [0, 1, 5, 7, 8, 16] [(16, vb r3)] ?_
  refine Ci h (fun h => ?_) fun h => ?_
  ·refine Qz hT 2 [4] ⟨[(4, vi i1)], [], 1⟩ ?_
   obtain rfl := Option.some.inj h
   exact rK [4] [] ⟨[(4, vi i1)], [], 1⟩ ⟨by kernel_rfl, rfl⟩
  refine WA_skip ?_
  refine Rgd hT 2 [0, 1, 7, 8] [(8, vi (wr (i1 + 1)))] ?_
  exact oK [0, 1, 7, 8] [] ⟨_, by omega, by omega, wr (i1 + 1), h, rfl⟩
 refine WA_exit ?_
 refine Qz hT 1 [4] ⟨[(4, vi (-1))], [], 1⟩ ?_
 obtain rfl := Option.some.inj h
 exact rK [4] [] ⟨[(4, vi (-1))], [], 1⟩ ⟨by kernel_rfl, rfl⟩
theorem ContainsFunc_string_fcost_touches_1_ok {n : Nat} {a0 : List ByteArray} {a1c0 : List ByteArray} {r : Bool} (h : ContainsFunc_string_fcost_touches_1 n a0 a1c0 = some r) : PT Try.prog 127 [po s_string a0, .fn 128 [] [.ref (el_string a1c0) 0]] (vb r) := by
 unfold ContainsFunc_string_fcost_touches_1 at h
 refine PT_bodyA hT Try.func127 rfl (by kernel_rfl) fun bad w => ?_
 refine Qzd hT 1 [0, 1] [] ?_
 refine Qg hT 2 [5, 6] ⟨[(5, po s_string a0), (6, .fn 128 [] [.ref (el_string a1c0) 0])], [], 0⟩ ?_
 obtain ⟨r1, hr1, h⟩ := bsome h
 refine Pt' en147 (IndexFunc_string_fcost_touches_1_ok hr1) ?_
 refine Sz hT 2 [4] ⟨[(4, vb (decide (r1 ≥ 0)))], [], 0⟩ ?_
 obtain rfl := Option.some.inj h
 exact rK [4] [] ⟨[(4, vb (decide (r1 ≥ 0)))], [], 1⟩ ⟨by kernel_rfl, rfl⟩
theorem cost_touches_ok {n : Nat} {a0 : Stmt} {a1 : List ByteArray} {r : Bool} (h : cost_touches n a0 a1 = some r) : PT Try.prog 90 [eStmt a0, po s_string a1] (vb r) := by
 unfold cost_touches at h
 refine PT_bodyA hT Try.func90 rfl (by kernel_rfl) fun bad w => ?_
 refine Qz hT 3 [2, 3] ⟨[(2, bx 2 0), (3, bx 3 1)], [(3, cb 1 62 1 (po s_string a1)), (2, cb 0 38 11 (eStmt a0))], 2⟩ ?_
 refine Qgd hT 1 [3, 5] [(5, eStmt a0)] ?_
 obtain ⟨r1, hr1, h⟩ := bsome h
 refine Pt' en112 (tree_Touches_ok hr1) ?_
 refine Sgd hT 1 [6, 7] [(6, .ps .fopt (s_string.F r1)), (7, .fn 128 [] [bx 3 1])] ?_
 obtain ⟨r2, hr2, h⟩ := bsome h
 refine Ob [3] [.ps .fopt (s_string.F r1), .fn 128 [] [bx 3 1]] [.ps .fopt (s_string.F r1), .fn 128 [] [.ref (el_string a1) 0]] (vb r2) en127 (PT_args ((ContainsFunc_string_fcost_touches_1_ok hr2)) ⟨VLe.fopt_opt, VLe.refl _, trivial⟩) ?_
 refine Szd hT 1 [4] [(4, vb r2)] ?_
 obtain rfl := Option.some.inj h
 exact rK [4] [] ⟨[(4, vb r2)], [], 1⟩ ⟨by kernel_rfl, rfl⟩
theorem cost_whole_ok {n : Nat} {a0 : Int} {r : Cx} (h : cost_whole n a0 = some r) : PT Try.prog 93 [vi a0] (vz r) := by
 unfold cost_whole at h
 refine PT_bodyA hT Try.func93 rfl (by kernel_rfl) fun bad w => ?_
 refine Qz hT 1 [0] ⟨[(0, vi a0)], [], 0⟩ ?_
 refine Qz hT 4 [2] ⟨[(2, vz (⟨FloatKind.f64.nearest a0, 0⟩ : Cx))], [], 0⟩ ?_
 obtain rfl := Option.some.inj h
 exact rK [2] [] ⟨[(2, vz (⟨FloatKind.f64.nearest a0, 0⟩ : Cx))], [], 1⟩ ⟨by kernel_rfl, rfl⟩
theorem cost_Upgrade_ok {n : Nat} {a0 : Prog} {a1 : ByteArray} {r : Cx} (h : cost_Upgrade n a0 a1 = some r) : PT Try.prog 52 [eProg a0, vw a1] (vz r) := by
 unfold cost_Upgrade at h
 refine PT_bodyA hT Try.func52 rfl (by kernel_rfl) fun bad w => ?_
 refine Qz hT 2 [1, 2] ⟨[(1, vw a1), (2, bx 2 0)], [(2, cb 0 26 2 (eProg a0))], 1⟩ ?_
 refine Qz hT 1 [1, 2, 5] ⟨[(1, vw a1), (2, bx 2 0), (5, vz (⟨0, 4607182418800017408⟩ : Cx))], [(2, cb 0 26 2 (eProg a0))], 1⟩ ?_
 refine Qg hT 1 [1, 2, 5, 9] ⟨[(1, vw a1), (2, bx 2 0), (5, vz (⟨0, 4607182418800017408⟩ : Cx)), (9, eProg a0)], [(2, cb 0 26 2 (eProg a0))], 1⟩ ?_
 obtain ⟨r1, hr1, h⟩ := bsome h
 refine Pt' en51 (cost_Weights_ok hr1) ?_
 refine Sz hT 1 [1, 2, 5, 6] ⟨[(1, vw a1), (2, bx 2 0), (5, vz (⟨0, 4607182418800017408⟩ : Cx)), (6, .ps .fopt (s_int.F r1))], [(2, cb 0 26 2 (eProg a0))], 1⟩ ?_
 refine WA_seq ?_
 refine Qg hT 1 [1, 5, 6, 11] ⟨[(1, vw a1), (5, vz (⟨0, 4607182418800017408⟩ : Cx)), (6, .ps .fopt (s_int.F r1)), (11, eProg a0)], [(2, cb 0 26 2 (eProg a0))], 1⟩ ?_
 obtain ⟨r2, hr2, h⟩ := bsome h
 refine Pt' en67 (tree_List_ok hr2) ?_
 refine Sg hT 0 [1, 5, 6, 12] ⟨[(1, vw a1), (5, vz (⟨0, 4607182418800017408⟩ : Cx)), (6, .ps .fopt (s_int.F r1)), (12, .ps .fopt (s_Stmt.F r2))], [(2, cb 0 26 2 (eProg a0))], 1⟩ ?_
 refine One' hT rfl (v_len s_Stmt .fopt r2) ?_
 refine Sz hT 1 [1, 5, 6, 12, 13, 14] ⟨[(1, vw a1), (5, vz (⟨0, 4607182418800017408⟩ : Cx)), (6, .ps .fopt (s_int.F r1)), (12, .ps .fopt (s_Stmt.F r2)), (13, vi (ln r2)), (14, vi 0)], [(2, cb 0 26 2 (eProg a0))], 1⟩ ?_
 refine WA_block ?_
 refine lK [1, 5, 6, 12, 13, 14] [] (fun k s => ∃ q, q ≤ k ∧ q ≤ n ∧ ∃ (z3 : Cx), ∃ (i4 : Int), cost_Upgrade_L0 q a0 a1 r1 r2 z3 i4 = some r ∧ s = ⟨[(1, vw a1), (5, vz z3), (6, .ps .fopt (s_int.F r1)), (12, .ps .fopt (s_Stmt.F r2)), (13, vi (ln r2)), (14, vi i4)], [], 1⟩) n ⟨n, Nat.le_refl _, Nat.le_refl _, (⟨0, 4607182418800017408⟩ : Cx), 0, h, rfl⟩ (by rintro s ⟨q, hq, _, z3, i4, h, _⟩; obtain rfl := Nat.le_zero.1 hq; rw [cost_Upgrade_L0] at h; cases h) ?_
 clear h
 rintro k1 s ⟨q1, hk1, hn1, z3, i4, h, rfl⟩
 rcases q1 with _ | q1
 ·rw [cost_Upgrade_L0] at h; cases h
 rw [cost_Upgrade_L0] at h
 refine Qzd hT 1 [1, 5, 6, 12, 13, 14, 15] [(15, vb (decide (i4 < (ln r2))))] ?_
 refine WA_seq ?_
 refine Ci h (fun h => ?_) fun h => ?_
 ·refine WA_skip ?_
  refine WA_seq ?_
  obtain ⟨J6, hJ6, h⟩ := jsome h
  refine WA_join (fun s => ∃ (z5 : Cx), J6 z5 = some r ∧ s = ⟨[(1, vw a1), (5, vz z5), (6, .ps .fopt (s_int.F r1)), (12, .ps .fopt (s_Stmt.F r2)), (13, vi (ln r2)), (14, vi i4)], [], 1⟩) ?_ ?_
  ·refine WA_block ?_
   refine Qgd hT 1 [1, 5, 6, 12, 13, 14, 16] [(16, vi i4)] ?_
   obtain ⟨x7, hx7, h⟩ := bsome h
   refine One' hT rfl (v_index s_Stmt .fopt r2 .i64 i4 hx7) ?_
   refine Szh hT 4 [1, 5, 6, 7, 8, 12, 13, 14] [(7, vi i4), (8, bx 8 1)] [(8, cb 1 38 11 (eStmt x7))] 2 ?_
   refine Qgh hT 3 [1, 5, 6, 7, 12, 13, 14, 19, 21] [(19, eStmt x7), (21, vs 21 2 s_string [a1])] [(21, ⟨2, 9, 1, false, false, s_string.F [a1]⟩), (8, cb 1 38 11 (eStmt x7))] 3 ?_
   refine WO_weak (wF 21 2 ⟨2, 9, 1, false, false, s_string.F [a1]⟩ [(1, vw a1), (5, vz z3), (6, .ps .fopt (s_int.F r1)), (7, vi i4), (12, .ps .fopt (s_Stmt.F r2)), (13, vi (ln r2)), (14, vi i4), (19, eStmt x7), (21, po s_string [a1])] [(8, cb 1 38 11 (eStmt x7))] ⟨rfl, .keep _, rfl, .keep _, rfl, .keep _, rfl, .keep _, rfl, .keep _, rfl, .keep _, rfl, .keep _, rfl, .keep _, rfl, .hit true, trivial⟩ ⟨rfl, .inl rfl, trivial⟩) ?_
   obtain ⟨r8, hr8, h⟩ := bsome h
   refine Pt' en90 (cost_touches_ok hr8) ?_
   refine Szd hT 0 [1, 5, 6, 7, 12, 13, 14, 22] [(22, vb r8)] ?_
   refine Ci h (fun h => ?_) fun h => ?_
   ·refine Rgd hT 3 [1, 6, 12, 13, 14, 23, 24, 25] [(23, vz z3), (24, .ps .fopt (s_int.F r1)), (25, vi i4)] ?_
    obtain ⟨x9, hx9, h⟩ := bsome h
    refine One' hT rfl (v_index s_int .fopt r1 .i64 i4 hx9) ?_
    refine Sgd hT 1 [1, 6, 12, 13, 14, 23, 27] [(27, vi x9)] ?_
    obtain ⟨r10, hr10, h⟩ := bsome h
    refine Pt' en93 (cost_whole_ok hr10) ?_
    refine Sg hT 0 [1, 6, 12, 13, 14, 23, 28] ⟨[(1, vw a1), (6, .ps .fopt (s_int.F r1)), (12, .ps .fopt (s_Stmt.F r2)), (13, vi (ln r2)), (14, vi i4), (23, vz z3), (28, vz r10)], [(8, cb 1 38 11 (eStmt x7))], 3⟩ ?_
    obtain ⟨z11, hz11, h⟩ := bsome h
    refine One' hT rfl (ev_cadd z3 r10 hz11 (by kernel_rfl) (by kernel_rfl)) ?_
    refine Sgd hT 1 [1, 5, 6, 12, 13, 14] [(5, vz z11)] ?_
    exact oK [1, 5, 6, 12, 13, 14] [] ⟨z11, h, rfl⟩
   exact sK [1, 5, 6, 12, 13, 14] [] ⟨z3, h, rfl⟩
  subst hJ6
  rintro s ⟨z5, h, rfl⟩
  skip
  refine Rgd hT 2 [1, 5, 6, 12, 13, 14] [(14, vi (wr (i4 + 1)))] ?_
  exact oK [1, 5, 6, 12, 13, 14] [] ⟨_, by omega, by omega, z5, wr (i4 + 1), h, rfl⟩
 refine WA_exit ?_
 refine Qz hT 2 [4] ⟨[(4, vz z3)], [], 1⟩ ?_
 obtain rfl := Option.some.inj h
 exact rK [4] [] ⟨[(4, vz z3)], [], 1⟩ ⟨by kernel_rfl, rfl⟩
def ref1_block_spec (n : Nat) : Prop := (∀ {a0 : List Stmt} {r : List Stmt}, ref1_block n a0 = some r → GO Try.prog 89 [] [po s_Stmt a0] (vs 100 1 s_Stmt r) [(100, rb 1 s_Stmt r)])
theorem ref1_block_step (n : Nat) (ih : ∀ m, m < n → ref1_block_spec m) : ∀ {a0 : List Stmt} {r : List Stmt}, ref1_block n a0 = some r → GO Try.prog 89 [] [po s_Stmt a0] (vs 100 1 s_Stmt r) [(100, rb 1 s_Stmt r)] := by
 intro a0 r h
 rcases n with _ | n
 ·rw [ref1_block] at h; cases h
 rw [ref1_block] at h
 refine GO_bodyA hT Try.func89 rfl [] (by kernel_rfl) fun bad w m => ?_
 refine Qzd hT 1 [0] [] ?_
 refine Qzd hT 1 [0, 3] [(3, vn)] ?_
 refine WA_seq ?_
 refine Qzd hT 1 [0, 3, 4] [(4, vi 0)] ?_
 refine WA_block ?_
 refine aW [0, 3, 4] ⟨[(0, po s_Stmt a0), (3, vn), (4, vi 0)], [], 1⟩ ?_
 refine WA_weak (wO 3 5000 38 11) ?_
 refine lK [0, 3, 4] [(5000, 10003, 1)] (fun k s => ∃ q, q ≤ k ∧ q ≤ n ∧ ∃ (l1 : List Stmt), ∃ (i2 : Int), ref1_block_L0 q a0 l1 i2 = some r ∧ s = ⟨[(0, po s_Stmt a0), (3, vs 10003 1 s_Stmt l1), (4, vi i2)], [(10003, rb 1 s_Stmt l1)], 2⟩) n ⟨n, Nat.le_refl _, Nat.le_refl _, ([] : List Stmt), 0, h, rfl⟩ (by rintro s ⟨q, hq, _, l1, i2, h, _⟩; obtain rfl := Nat.le_zero.1 hq; rw [ref1_block_L0] at h; cases h) ?_
 clear h
 rintro k1 s ⟨q1, hk1, hn1, l1, i2, h, rfl⟩
 rcases q1 with _ | q1
 ·rw [ref1_block_L0] at h; cases h
 rw [ref1_block_L0] at h
 refine WA_seq ?_
 refine Qgd hT 2 [0, 3, 4, 5, 6] [(5, vi i2), (6, po s_Stmt a0)] ?_
 refine One' hT rfl (v_len s_Stmt .opt a0) ?_
 refine Szd hT 1 [0, 3, 4, 8] [(8, vb (decide (i2 < (ln a0))))] ?_
 refine Ci h (fun h => ?_) fun h => ?_
 ·refine WA_skip ?_
  refine WA_seq ?_
  refine WA_block ?_
  refine Qg hT 3 [0, 4, 11, 12, 13] ⟨[(0, po s_Stmt a0), (4, vi i2), (11, vs 10003 1 s_Stmt l1), (12, po s_Stmt a0), (13, vi i2)], [(10003, rb 1 s_Stmt l1)], 2⟩ ?_
  obtain ⟨x3, hx3, h⟩ := bsome h
  refine One' hT rfl (v_index s_Stmt .opt a0 .i64 i2 hx3) ?_
  refine Sgd hT 1 [0, 4, 11, 15] [(15, eStmt x3)] ?_
  refine One' hT rfl (ev_bslice s_Stmt 16 [x3] (by kernel_rfl)) ?_
  refine Sgh hT 0 [0, 4, 11, 16] [(16, vs 16 2 s_Stmt [x3])] [(16, ⟨2, 38, 11, false, false, s_Stmt.F [x3]⟩), (10003, rb 1 s_Stmt l1)] 3 ?_
  obtain ⟨g4, h⟩ := gsome h
  refine Oa hT s_Stmt 10003 1 true l1 [x3] (eO s_Stmt 16 2 true ⟨2, 38, 11, false, false, s_Stmt.F [x3]⟩ [x3]) g4 ?_
  refine Szh hT 1 [0, 3, 4] [(3, vs 17 3 s_Stmt (l1 ++ [x3]))] [(17, rb 3 s_Stmt (l1 ++ [x3])), (16, ⟨2, 38, 11, false, false, s_Stmt.F [x3]⟩)] 4 ?_
  refine Qgd hT 3 [0, 4, 18, 19, 20] [(18, vs 17 3 s_Stmt (l1 ++ [x3])), (19, po s_Stmt a0), (20, vi i2)] ?_
  obtain ⟨x5, hx5, h⟩ := bsome h
  refine One' hT rfl (v_index s_Stmt .opt a0 .i64 i2 hx5) ?_
  refine Sgd hT 2 [0, 4, 18, 23] [(23, po s_Stmt x5.Body)] ?_
  obtain ⟨r6, hr6, h⟩ := bsome h
  refine Og [] [(100, rb 1 s_Stmt r6)] [po s_Stmt x5.Body] [po s_Stmt x5.Body] [] [(100, 24, 4)] [(24, rb 4 s_Stmt r6)] (vs 100 1 s_Stmt r6) (vs 24 4 s_Stmt r6) 5 en89 ((ih _ (by omega)) hr6) ?_
  refine Sgh hT 0 [0, 4, 18, 24] [(24, vs 24 4 s_Stmt r6)] [(24, rb 4 s_Stmt r6), (17, rb 3 s_Stmt (l1 ++ [x3])), (16, ⟨2, 38, 11, false, false, s_Stmt.F [x3]⟩)] 5 ?_
  obtain ⟨g7, h⟩ := gsome h
  refine Oa hT s_Stmt 17 3 true (l1 ++ [x3]) r6 (eO s_Stmt 24 4 true (rb 4 s_Stmt r6) r6) g7 ?_
  refine Szh hT 1 [0, 3, 4] [(3, vs 25 5 s_Stmt ((l1 ++ [x3]) ++ r6))] [(25, rb 5 s_Stmt ((l1 ++ [x3]) ++ r6)), (24, rb 4 s_Stmt r6), (16, ⟨2, 38, 11, false, false, s_Stmt.F [x3]⟩)] 6 ?_
  refine Rgd hT 3 [0, 4, 26, 27, 28] [(26, vs 25 5 s_Stmt ((l1 ++ [x3]) ++ r6)), (27, po s_Stmt a0), (28, vi i2)] ?_
  obtain ⟨x8, hx8, h⟩ := bsome h
  refine One' hT rfl (v_index s_Stmt .opt a0 .i64 i2 hx8) ?_
  refine Sg hT 2 [0, 4, 26, 31] ⟨[(0, po s_Stmt a0), (4, vi i2), (26, vs 25 5 s_Stmt ((l1 ++ [x3]) ++ r6)), (31, po s_Stmt x8.Else)], [(25, rb 5 s_Stmt ((l1 ++ [x3]) ++ r6)), (24, rb 4 s_Stmt r6), (16, ⟨2, 38, 11, false, false, s_Stmt.F [x3]⟩)], 6⟩ ?_
  obtain ⟨r9, hr9, h⟩ := bsome h
  refine Og [] [(100, rb 1 s_Stmt r9)] [po s_Stmt x8.Else] [po s_Stmt x8.Else] [] [(100, 32, 6)] [(32, rb 6 s_Stmt r9)] (vs 100 1 s_Stmt r9) (vs 32 6 s_Stmt r9) 7 en89 ((ih _ (by omega)) hr9) ?_
  refine Sgh hT 0 [0, 4, 26, 32] [(32, vs 32 6 s_Stmt r9)] [(32, rb 6 s_Stmt r9), (25, rb 5 s_Stmt ((l1 ++ [x3]) ++ r6)), (24, rb 4 s_Stmt r6), (16, ⟨2, 38, 11, false, false, s_Stmt.F [x3]⟩)] 7 ?_
  obtain ⟨g10, h⟩ := gsome h
  refine Oa hT s_Stmt 25 5 true ((l1 ++ [x3]) ++ r6) r9 (eO s_Stmt 32 6 true (rb 6 s_Stmt r9) r9) g10 ?_
  refine Szh hT 1 [0, 3, 4] [(3, vs 33 7 s_Stmt (((l1 ++ [x3]) ++ r6) ++ r9))] [(33, rb 7 s_Stmt (((l1 ++ [x3]) ++ r6) ++ r9)), (32, rb 6 s_Stmt r9), (24, rb 4 s_Stmt r6), (16, ⟨2, 38, 11, false, false, s_Stmt.F [x3]⟩)] 8 ?_
  refine Rgd hT 3 [0, 3, 4] [(4, vi (wr (i2 + 1)))] ?_
  exact oK [0, 3, 4] [(33, 10003, 1)] ⟨_, by omega, by omega, ((l1 ++ [x3]) ++ r6) ++ r9, wr (i2 + 1), h, rfl⟩
 refine WA_exit ?_
 refine Qzd hT 2 [2] [(2, vs 10003 1 s_Stmt l1)] ?_
 obtain rfl := Option.some.inj h
 exact rK [2] [(10003, 100, 1)] ⟨[(2, vs 100 1 s_Stmt l1)], [(100, rb 1 s_Stmt l1)], 2⟩ ⟨by kernel_rfl, by kernel_rfl, rfl⟩
theorem ref1_block_all (n : Nat) : ref1_block_spec n := by
 induction n using Nat.strongRecOn with
 | _ n ih => exact ref1_block_step n ih
theorem ref1_block_ok {n : Nat} {a0 : List Stmt} {r : List Stmt} (h : ref1_block n a0 = some r) : GO Try.prog 89 [] [po s_Stmt a0] (vs 100 1 s_Stmt r) [(100, rb 1 s_Stmt r)] := (ref1_block_all n) h
theorem ref1_List_ok {n : Nat} {a0 : Prog} {r : List Stmt} (h : ref1_List n a0 = some r) : GO Try.prog 45 [] [eProg a0] (vs 100 1 s_Stmt r) [(100, rb 1 s_Stmt r)] := by
 unfold ref1_List at h
 refine GO_bodyA hT Try.func45 rfl [] (by kernel_rfl) fun bad w m => ?_
 refine Qz hT 2 [1] ⟨[(1, bx 1 1)], [(1, cb 1 26 2 (eProg a0))], 2⟩ ?_
 refine Qzd hT 1 [1, 3] [(3, vn)] ?_
 refine WA_seq ?_
 refine Qzd hT 1 [1, 3, 4] [(4, vi 0)] ?_
 refine WA_block ?_
 refine aW [1, 3, 4] ⟨[(1, bx 1 1), (3, vn), (4, vi 0)], [(1, cb 1 26 2 (eProg a0))], 2⟩ ?_
 refine WA_weak (wO 3 5000 38 11) ?_
 refine lK [1, 3, 4] [(1, 1, 1), (5000, 10003, 1)] (fun k s => ∃ q, q ≤ k ∧ q ≤ n ∧ ∃ (l1 : List Stmt), ∃ (i2 : Int), ref1_List_L0 q a0 l1 i2 = some r ∧ s = ⟨[(1, bx 1 1), (3, vs 10003 1 s_Stmt l1), (4, vi i2)], [(1, cb 1 26 2 (eProg a0)), (10003, rb 1 s_Stmt l1)], 2⟩) n ⟨n, Nat.le_refl _, Nat.le_refl _, ([] : List Stmt), 0, h, rfl⟩ (by rintro s ⟨q, hq, _, l1, i2, h, _⟩; obtain rfl := Nat.le_zero.1 hq; rw [ref1_List_L0] at h; cases h) ?_
 clear h
 rintro k1 s ⟨q1, hk1, hn1, l1, i2, h, rfl⟩
 rcases q1 with _ | q1
 ·rw [ref1_List_L0] at h; cases h
 rw [ref1_List_L0] at h
 refine WA_seq ?_
 refine Qgd hT 3 [1, 3, 4, 5, 7] [(5, vi i2), (7, po s_LStmt a0.Threads)] ?_
 refine One' hT rfl (v_len s_LStmt .opt a0.Threads) ?_
 refine Sz hT 1 [1, 3, 4, 9] ⟨[(1, bx 1 1), (3, vs 10003 1 s_Stmt l1), (4, vi i2), (9, vb (decide (i2 < (ln a0.Threads))))], [(1, cb 1 26 2 (eProg a0)), (10003, rb 1 s_Stmt l1)], 2⟩ ?_
 refine Ci h (fun h => ?_) fun h => ?_
 ·refine WA_skip ?_
  refine WA_seq ?_
  refine WA_block ?_
  refine Rgd hT 4 [1, 4, 12, 14, 15] [(12, vs 10003 1 s_Stmt l1), (14, po s_LStmt a0.Threads), (15, vi i2)] ?_
  obtain ⟨x3, hx3, h⟩ := bsome h
  refine One' hT rfl (v_index s_LStmt .opt a0.Threads .i64 i2 hx3) ?_
  refine Sgd hT 1 [1, 4, 12, 17] [(17, po s_Stmt x3)] ?_
  obtain ⟨r4, hr4, h⟩ := bsome h
  refine Og [] [(100, rb 1 s_Stmt r4)] [po s_Stmt x3] [po s_Stmt x3] [] [(100, 18, 2)] [(18, rb 2 s_Stmt r4)] (vs 100 1 s_Stmt r4) (vs 18 2 s_Stmt r4) 3 en89 (ref1_block_ok hr4) ?_
  refine Sgh hT 0 [1, 4, 12, 18] [(18, vs 18 2 s_Stmt r4)] [(18, rb 2 s_Stmt r4), (1, cb 1 26 2 (eProg a0)), (10003, rb 1 s_Stmt l1)] 3 ?_
  obtain ⟨g5, h⟩ := gsome h
  refine Oa hT s_Stmt 10003 1 true l1 r4 (eO s_Stmt 18 2 true (rb 2 s_Stmt r4) r4) g5 ?_
  refine Szh hT 1 [1, 3, 4] [(3, vs 19 3 s_Stmt (l1 ++ r4))] [(19, rb 3 s_Stmt (l1 ++ r4)), (18, rb 2 s_Stmt r4), (1, cb 1 26 2 (eProg a0))] 4 ?_
  refine Rgd hT 3 [1, 3, 4] [(4, vi (wr (i2 + 1)))] ?_
  exact oK [1, 3, 4] [(1, 1, 1), (19, 10003, 1)] ⟨_, by omega, by omega, l1 ++ r4, wr (i2 + 1), h, rfl⟩
 refine WA_exit ?_
 refine Qzd hT 2 [2] [(2, vs 10003 1 s_Stmt l1)] ?_
 obtain rfl := Option.some.inj h
 exact rK [2] [(10003, 100, 1)] ⟨[(2, vs 100 1 s_Stmt l1)], [(100, rb 1 s_Stmt l1)], 2⟩ ⟨by kernel_rfl, by kernel_rfl, rfl⟩
def ref1_Names_spec (n : Nat) : Prop := (∀ {a0 : Expr} {r : List ByteArray}, ref1_Names n a0 = some r → GO Try.prog 92 [] [eExpr a0] (vs 100 1 s_string r) [(100, rb 1 s_string r)])
theorem ref1_Names_step (n : Nat) (ih : ∀ m, m < n → ref1_Names_spec m) : ∀ {a0 : Expr} {r : List ByteArray}, ref1_Names n a0 = some r → GO Try.prog 92 [] [eExpr a0] (vs 100 1 s_string r) [(100, rb 1 s_string r)] := by
 intro a0 r h
 rcases n with _ | n
 ·rw [ref1_Names] at h; cases h
 rw [ref1_Names] at h
 refine GO_bodyA hT Try.func92 rfl [] (by kernel_rfl) fun bad w m => ?_
 refine Qz hT 2 [1] ⟨[(1, bx 1 1)], [(1, cb 1 35 4 (eExpr a0))], 2⟩ ?_
 refine Qzd hT 1 [1, 3] [(3, vn)] ?_
 refine WA_seq ?_
 refine Qzd hT 3 [1, 3, 7] [(7, vb (a0.Kind == 2))] ?_
 obtain ⟨J2, hJ2, h⟩ := jsome h
 refine WA_join (fun s => ∃ (l1 : List ByteArray), J2 l1 = some r ∧ s = ⟨[(1, bx 1 1), (3, vs 10003 1 s_string l1)], [(1, cb 1 35 4 (eExpr a0)), (10003, rb 1 s_string l1)], 2⟩) ?_ ?_
 ·refine Ci h (fun h => ?_) fun h => ?_
  ·refine Rg hT 4 [1, 8, 11] ⟨[(1, bx 1 1), (8, vn), (11, vs 11 2 s_string [a0.Name])], [(11, ⟨2, 9, 1, false, false, s_string.F [a0.Name]⟩), (1, cb 1 35 4 (eExpr a0))], 3⟩ ?_
   refine WO_weak (wO 8 6012 9 1) ?_
   obtain ⟨g3, h⟩ := gsome h
   refine Oa hT s_string 6012 3 true ([] : List ByteArray) [a0.Name] (eO s_string 11 2 true ⟨2, 9, 1, false, false, s_string.F [a0.Name]⟩ [a0.Name]) g3 ?_
   refine Sg hT 1 [1, 3] ⟨[(1, bx 1 1), (3, vs 12 4 s_string (([] : List ByteArray) ++ [a0.Name]))], [(12, rb 4 s_string (([] : List ByteArray) ++ [a0.Name])), (11, ⟨2, 9, 1, false, false, s_string.F [a0.Name]⟩), (1, cb 1 35 4 (eExpr a0))], 5⟩ ?_
   exact oK [1, 3] [(1, 1, 1), (12, 10003, 1)] ⟨([] : List ByteArray) ++ [a0.Name], h, rfl⟩
  refine aW [1, 3] ⟨[(1, bx 1 1), (3, vn)], [(1, cb 1 35 4 (eExpr a0))], 2⟩ ?_
  refine WA_weak (wO 3 5000 9 1) ?_
  exact sK [1, 3] [(1, 1, 1), (5000, 10003, 1)] ⟨([] : List ByteArray), h, rfl⟩
 subst hJ2
 rintro s ⟨l1, h, rfl⟩
 refine WA_seq ?_
 refine Qzd hT 1 [1, 3, 4] [(4, vi 0)] ?_
 refine WA_block ?_
 refine lK [1, 3, 4] [(1, 1, 1), (10003, 10003, 1)] (fun k s => ∃ q, q ≤ k ∧ q ≤ n ∧ ∃ (l4 : List ByteArray), ∃ (i5 : Int), ref1_Names_L0 q a0 l1 l4 i5 = some r ∧ s = ⟨[(1, bx 1 1), (3, vs 10003 1 s_string l4), (4, vi i5)], [(1, cb 1 35 4 (eExpr a0)), (10003, rb 1 s_string l4)], 2⟩) n ⟨n, Nat.le_refl _, Nat.le_refl _, l1, 0, h, rfl⟩ (by rintro s ⟨q, hq, _, l4, i5, h, _⟩; obtain rfl := Nat.le_zero.1 hq; rw [ref1_Names_L0] at h; cases h) ?_
 clear h
 rintro k1 s ⟨q1, hk1, hn1, l4, i5, h, rfl⟩
 rcases q1 with _ | q1
 ·rw [ref1_Names_L0] at h; cases h
 rw [ref1_Names_L0] at h
 refine WA_seq ?_
 refine Qgd hT 3 [1, 3, 4, 13, 15] [(13, vi i5), (15, po s_Expr a0.Of)] ?_
 refine One' hT rfl (v_len s_Expr .opt a0.Of) ?_
 refine Szd hT 1 [1, 3, 4, 17] [(17, vb (decide (i5 < (ln a0.Of))))] ?_
 refine Ci h (fun h => ?_) fun h => ?_
 ·refine WA_skip ?_
  refine WA_seq ?_
  refine WA_block ?_
  refine Rg hT 4 [1, 4, 20, 22, 23] ⟨[(1, bx 1 1), (4, vi i5), (20, vs 10003 1 s_string l4), (22, po s_Expr a0.Of), (23, vi i5)], [(1, cb 1 35 4 (eExpr a0)), (10003, rb 1 s_string l4)], 2⟩ ?_
  obtain ⟨x6, hx6, h⟩ := bsome h
  refine One' hT rfl (v_index s_Expr .opt a0.Of .i64 i5 hx6) ?_
  refine Sgd hT 1 [1, 4, 20, 25] [(25, eExpr x6)] ?_
  obtain ⟨r7, hr7, h⟩ := bsome h
  refine Og [] [(100, rb 1 s_string r7)] [eExpr x6] [eExpr x6] [] [(100, 26, 2)] [(26, rb 2 s_string r7)] (vs 100 1 s_string r7) (vs 26 2 s_string r7) 3 en92 ((ih _ (by omega)) hr7) ?_
  refine Sgh hT 0 [1, 4, 20, 26] [(26, vs 26 2 s_string r7)] [(26, rb 2 s_string r7), (1, cb 1 35 4 (eExpr a0)), (10003, rb 1 s_string l4)] 3 ?_
  obtain ⟨g8, h⟩ := gsome h
  refine Oa hT s_string 10003 1 true l4 r7 (eO s_string 26 2 true (rb 2 s_string r7) r7) g8 ?_
  refine Szh hT 1 [1, 3, 4] [(3, vs 27 3 s_string (l4 ++ r7))] [(27, rb 3 s_string (l4 ++ r7)), (26, rb 2 s_string r7), (1, cb 1 35 4 (eExpr a0))] 4 ?_
  refine Rgd hT 3 [1, 3, 4] [(4, vi (wr (i5 + 1)))] ?_
  exact oK [1, 3, 4] [(1, 1, 1), (27, 10003, 1)] ⟨_, by omega, by omega, l4 ++ r7, wr (i5 + 1), h, rfl⟩
 refine WA_exit ?_
 refine Qzd hT 2 [2] [(2, vs 10003 1 s_string l4)] ?_
 obtain rfl := Option.some.inj h
 exact rK [2] [(10003, 100, 1)] ⟨[(2, vs 100 1 s_string l4)], [(100, rb 1 s_string l4)], 2⟩ ⟨by kernel_rfl, by kernel_rfl, rfl⟩
theorem ref1_Names_all (n : Nat) : ref1_Names_spec n := by
 induction n using Nat.strongRecOn with
 | _ n ih => exact ref1_Names_step n ih
theorem ref1_Names_ok {n : Nat} {a0 : Expr} {r : List ByteArray} (h : ref1_Names n a0 = some r) : GO Try.prog 92 [] [eExpr a0] (vs 100 1 s_string r) [(100, rb 1 s_string r)] := (ref1_Names_all n) h
theorem ref1_Touches_ok {n : Nat} {a0 : Stmt} {r : List ByteArray} (h : ref1_Touches n a0 = some r) : GO Try.prog 47 [] [eStmt a0] (vs 100 1 s_string r) [(100, rb 1 s_string r)] := by
 unfold ref1_Touches at h
 refine GO_bodyA hT Try.func47 rfl [] (by kernel_rfl) fun bad w m => ?_
 refine Qz hT 2 [1] ⟨[(1, bx 1 1)], [(1, cb 1 38 11 (eStmt a0))], 2⟩ ?_
 refine Qzd hT 1 [1, 3] [(3, vn)] ?_
 refine WA_seq ?_
 refine Qzd hT 2 [1, 3, 5] [(5, vi a0.Kind)] ?_
 obtain ⟨J2, hJ2, h⟩ := jsome h
 refine WA_join (fun s => ∃ (l1 : List ByteArray), J2 l1 = some r ∧ s = ⟨[(1, bx 1 1), (3, vs 10003 1 s_string l1)], [(1, cb 1 38 11 (eStmt a0)), (10003, rb 1 s_string l1)], 2⟩) ?_ ?_
 ·refine WA_block ?_
  refine WA_seq ?_
  refine Qzd hT 2 [1, 3, 5, 6] [(6, vb (a0.Kind == 1))] ?_
  obtain ⟨J4, hJ4, h⟩ := jsome h
  refine WA_join (fun s => ∃ (b3 : Bool), J4 b3 = some r ∧ s = ⟨[(1, bx 1 1), (3, vn), (6, vb b3)], [(1, cb 1 38 11 (eStmt a0))], 2⟩) ?_ ?_
  ·refine Ci h (fun h => ?_) fun h => ?_
   ·exact sK [1, 3, 6] [(1, 1, 1)] ⟨(a0.Kind == 1), h, rfl⟩
   refine Qzd hT 2 [1, 3, 5, 6] [(6, vb (a0.Kind == 4))] ?_
   refine Ci h (fun h => ?_) fun h => ?_
   ·exact sK [1, 3, 6] [(1, 1, 1)] ⟨(a0.Kind == 4), h, rfl⟩
   refine Qzd hT 2 [1, 3, 5, 6] [(6, vb (a0.Kind == 6))] ?_
   refine Ci h (fun h => ?_) fun h => ?_
   ·exact sK [1, 3, 6] [(1, 1, 1)] ⟨(a0.Kind == 6), h, rfl⟩
   refine Rgd hT 2 [1, 3, 6] [(6, vb (a0.Kind == 7))] ?_
   exact oK [1, 3, 6] [(1, 1, 1)] ⟨(a0.Kind == 7), h, rfl⟩
  subst hJ4
  rintro s ⟨b3, h, rfl⟩
  skip
  refine Ci h (fun h => ?_) fun h => ?_
  ·refine Rgd hT 2 [1, 12] [(12, eExpr a0.E)] ?_
   obtain ⟨r5, hr5, h⟩ := bsome h
   refine Og [] [(100, rb 1 s_string r5)] [eExpr a0.E] [eExpr a0.E] [] [(100, 13, 2)] [(13, rb 2 s_string r5)] (vs 100 1 s_string r5) (vs 13 2 s_string r5) 3 en92 (ref1_Names_ok hr5) ?_
   refine Sg hT 1 [1, 3] ⟨[(1, bx 1 1), (3, vs 13 2 s_string r5)], [(13, rb 2 s_string r5), (1, cb 1 38 11 (eStmt a0))], 3⟩ ?_
   exact oK [1, 3] [(1, 1, 1), (13, 10003, 1)] ⟨r5, h, rfl⟩
  refine aW [1, 3] ⟨[(1, bx 1 1), (3, vn)], [(1, cb 1 38 11 (eStmt a0))], 2⟩ ?_
  refine WA_weak (wO 3 5000 9 1) ?_
  exact sK [1, 3] [(1, 1, 1), (5000, 10003, 1)] ⟨([] : List ByteArray), h, rfl⟩
 subst hJ2
 rintro s ⟨l1, h, rfl⟩
 refine WA_seq ?_
 refine Qzd hT 3 [1, 3, 16] [(16, vb (a0.Kind == 1))] ?_
 obtain ⟨J7, hJ7, h⟩ := jsome h
 refine WA_join (fun s => ∃ (l6 : List ByteArray), J7 l6 = some r ∧ s = ⟨[(1, bx 1 1), (3, vs 10003 1 s_string l6)], [(1, cb 1 38 11 (eStmt a0)), (10003, rb 1 s_string l6)], 2⟩) ?_ ?_
 ·refine Ci h (fun h => ?_) fun h => ?_
  ·refine Rg hT 4 [1, 17, 20] ⟨[(1, bx 1 1), (17, vs 10003 1 s_string l1), (20, vs 20 2 s_string [a0.Name])], [(20, ⟨2, 9, 1, false, false, s_string.F [a0.Name]⟩), (1, cb 1 38 11 (eStmt a0)), (10003, rb 1 s_string l1)], 3⟩ ?_
   obtain ⟨g8, h⟩ := gsome h
   refine Oa hT s_string 10003 1 true l1 [a0.Name] (eO s_string 20 2 true ⟨2, 9, 1, false, false, s_string.F [a0.Name]⟩ [a0.Name]) g8 ?_
   refine Sg hT 1 [1, 3] ⟨[(1, bx 1 1), (3, vs 21 3 s_string (l1 ++ [a0.Name]))], [(21, rb 3 s_string (l1 ++ [a0.Name])), (20, ⟨2, 9, 1, false, false, s_string.F [a0.Name]⟩), (1, cb 1 38 11 (eStmt a0))], 4⟩ ?_
   exact oK [1, 3] [(1, 1, 1), (21, 10003, 1)] ⟨l1 ++ [a0.Name], h, rfl⟩
  exact sK [1, 3] [(1, 1, 1), (10003, 10003, 1)] ⟨l1, h, rfl⟩
 subst hJ7
 rintro s ⟨l6, h, rfl⟩
 refine WA_seq ?_
 refine Qzd hT 3 [1, 3, 24] [(24, vb (a0.Kind == 5))] ?_
 obtain ⟨J10, hJ10, h⟩ := jsome h
 refine WA_join (fun s => ∃ (l9 : List ByteArray), J10 l9 = some r ∧ s = ⟨[(3, vs 10003 1 s_string l9)], [(10003, rb 1 s_string l9)], 2⟩) ?_ ?_
 ·refine Ci h (fun h => ?_) fun h => ?_
  ·refine Rg hT 4 [25, 28] ⟨[(25, vs 10003 1 s_string l6), (28, vs 28 2 s_string [a0.Other])], [(28, ⟨2, 9, 1, false, false, s_string.F [a0.Other]⟩), (1, cb 1 38 11 (eStmt a0)), (10003, rb 1 s_string l6)], 3⟩ ?_
   obtain ⟨g11, h⟩ := gsome h
   refine Oa hT s_string 10003 1 true l6 [a0.Other] (eO s_string 28 2 true ⟨2, 9, 1, false, false, s_string.F [a0.Other]⟩ [a0.Other]) g11 ?_
   refine Sg hT 1 [3] ⟨[(3, vs 29 3 s_string (l6 ++ [a0.Other]))], [(29, rb 3 s_string (l6 ++ [a0.Other])), (28, ⟨2, 9, 1, false, false, s_string.F [a0.Other]⟩), (1, cb 1 38 11 (eStmt a0))], 4⟩ ?_
   exact oK [3] [(29, 10003, 1)] ⟨l6 ++ [a0.Other], h, rfl⟩
  exact sK [3] [(10003, 10003, 1)] ⟨l6, h, rfl⟩
 subst hJ10
 rintro s ⟨l9, h, rfl⟩
 refine Qzd hT 2 [2] [(2, vs 10003 1 s_string l9)] ?_
 obtain rfl := Option.some.inj h
 exact rK [2] [(10003, 100, 1)] ⟨[(2, vs 100 1 s_string l9)], [(100, rb 1 s_string l9)], 2⟩ ⟨by kernel_rfl, by kernel_rfl, rfl⟩
theorem cost_size_ok {n : Nat} {a0 : Stmt} {r : Int} (h : cost_size n a0 = some r) : PT Try.prog 91 [eStmt a0] (vi r) := by
 unfold cost_size at h
 refine PT_bodyA hT Try.func91 rfl (by kernel_rfl) fun bad w => ?_
 refine Qz hT 2 [1] ⟨[(1, bx 1 0)], [(1, cb 0 38 11 (eStmt a0))], 1⟩ ?_
 refine Qgd hT 1 [3] [(3, eStmt a0)] ?_
 refine One' hT rfl (ev_bslice s_Stmt 4 [a0] (by kernel_rfl)) ?_
 refine Sg hT 0 [4] ⟨[(4, vs 4 1 s_Stmt [a0])], [(4, ⟨1, 38, 11, false, false, s_Stmt.F [a0]⟩), (1, cb 0 38 11 (eStmt a0))], 2⟩ ?_
 refine WO_weak (wF 4 1 ⟨1, 38, 11, false, false, s_Stmt.F [a0]⟩ [(4, po s_Stmt [a0])] [(1, cb 0 38 11 (eStmt a0))] ⟨rfl, .hit true, trivial⟩ ⟨rfl, .inl rfl, trivial⟩) ?_
 refine Sg hT 1 [5] ⟨[(5, vs 5 2 s_LStmt [[a0]])], [(5, ⟨2, 32, 1, false, false, s_LStmt.F [[a0]]⟩), (1, cb 0 38 11 (eStmt a0))], 3⟩ ?_
 refine WO_weak (wF 5 2 ⟨2, 32, 1, false, false, s_LStmt.F [[a0]]⟩ [(5, po s_LStmt [[a0]])] [(1, cb 0 38 11 (eStmt a0))] ⟨rfl, .hit true, trivial⟩ ⟨rfl, .inl rfl, trivial⟩) ?_
 refine Sg hT 1 [6] ⟨[(6, .agg [vn, po s_LStmt [[a0]]])], [(1, cb 0 38 11 (eStmt a0))], 3⟩ ?_
 obtain ⟨r1, hr1, h⟩ := bsome h
 refine Pt' (vs := [.agg [vn, po s_LStmt [[a0]]]]) en67 (PT_args ((tree_List_ok hr1)) ⟨VLe.agg ⟨VLe.nil_opt, VLe.refl _, trivial⟩, trivial⟩) ?_
 refine Sgd hT 0 [7] [(7, .ps .fopt (s_Stmt.F r1))] ?_
 refine One' hT rfl (v_len s_Stmt .fopt r1) ?_
 refine Szd hT 1 [2] [(2, vi (ln r1))] ?_
 obtain rfl := Option.some.inj h
 exact rK [2] [] ⟨[(2, vi (ln r1))], [], 1⟩ ⟨by kernel_rfl, rfl⟩
theorem cost_Wrapped_ok {n : Nat} {a0 : Prog} {a1 : List ByteArray} {r : List Int} (h : cost_Wrapped n a0 a1 = some r) : PT Try.prog 46 [eProg a0, po s_string a1] (.ps .fopt (s_int.F r)) := by
 unfold cost_Wrapped at h
 refine PT_bodyA hT Try.func46 rfl (by kernel_rfl) fun bad w => ?_
 refine Qzh hT 2 [1, 2] [(2, bx 2 0)] [(2, cb 0 26 2 (eProg a0))] 1 ?_
 refine Qzd hT 1 [1, 2, 5] [(5, vn)] ?_
 refine Qgd hT 1 [1, 5, 8] [(8, eProg a0)] ?_
 obtain ⟨r1, hr1, h⟩ := bsome h
 refine Pt' en67 (tree_List_ok hr1) ?_
 refine Szd hT 1 [1, 5, 6] [(6, .ps .fopt (s_Stmt.F r1))] ?_
 refine WA_seq ?_
 refine Qzd hT 1 [1, 5, 6, 7] [(7, vi 0)] ?_
 refine WA_block ?_
 refine aW [1, 5, 6, 7] ⟨[(1, po s_string a1), (5, vn), (6, .ps .fopt (s_Stmt.F r1)), (7, vi 0)], [(2, cb 0 26 2 (eProg a0))], 1⟩ ?_
 refine WA_weak (wO 5 5000 3 1) ?_
 refine lK [1, 5, 6, 7] [(5000, 10005, 0)] (fun k s => ∃ q, q ≤ k ∧ q ≤ n ∧ ∃ (l2 : List Int), ∃ (i3 : Int), cost_Wrapped_L0 q a0 a1 r1 l2 i3 = some r ∧ s = ⟨[(1, po s_string a1), (5, vs 10005 0 s_int l2), (6, .ps .fopt (s_Stmt.F r1)), (7, vi i3)], [(10005, rb 0 s_int l2)], 1⟩) n ⟨n, Nat.le_refl _, Nat.le_refl _, ([] : List Int), 0, h, rfl⟩ (by rintro s ⟨q, hq, _, l2, i3, h, _⟩; obtain rfl := Nat.le_zero.1 hq; rw [cost_Wrapped_L0] at h; cases h) ?_
 clear h
 rintro k1 s ⟨q1, hk1, hn1, l2, i3, h, rfl⟩
 rcases q1 with _ | q1
 ·rw [cost_Wrapped_L0] at h; cases h
 rw [cost_Wrapped_L0] at h
 refine WA_seq ?_
 refine Qgd hT 2 [1, 5, 6, 7, 10, 11] [(10, vi i3), (11, .ps .fopt (s_Stmt.F r1))] ?_
 refine One' hT rfl (v_len s_Stmt .fopt r1) ?_
 refine Szd hT 1 [1, 5, 6, 7, 13] [(13, vb (decide (i3 < (ln r1))))] ?_
 refine Ci h (fun h => ?_) fun h => ?_
 ·refine WA_skip ?_
  refine WA_block ?_
  refine Qgd hT 2 [1, 5, 6, 7, 14, 15] [(14, .ps .fopt (s_Stmt.F r1)), (15, vi i3)] ?_
  obtain ⟨x4, hx4, h⟩ := bsome h
  refine One' hT rfl (v_index s_Stmt .fopt r1 .i64 i3 hx4) ?_
  refine Sgd hT 2 [1, 5, 6, 7, 17, 18] [(17, eStmt x4), (18, po s_string a1)] ?_
  obtain ⟨r5, hr5, h⟩ := bsome h
  refine Pt' en90 (cost_touches_ok hr5) ?_
  refine Szd hT 0 [1, 5, 6, 7, 19] [(19, vb r5)] ?_
  refine Ci h (fun h => ?_) fun h => ?_
  ·refine Qgh hT 3 [1, 6, 7, 20, 22] [(20, vs 10005 0 s_int l2), (22, vs 22 1 s_int [i3])] [(22, ⟨1, 3, 1, false, false, s_int.F [i3]⟩), (10005, rb 0 s_int l2)] 2 ?_
   obtain ⟨g6, h⟩ := gsome h
   refine Oa hT s_int 10005 0 true l2 [i3] (eO s_int 22 1 true ⟨1, 3, 1, false, false, s_int.F [i3]⟩ [i3]) g6 ?_
   refine Szh hT 1 [1, 5, 6, 7] [(5, vs 23 2 s_int (l2 ++ [i3]))] [(23, rb 2 s_int (l2 ++ [i3])), (22, ⟨1, 3, 1, false, false, s_int.F [i3]⟩)] 3 ?_
   refine Rgd hT 3 [1, 5, 6, 24, 25, 26] [(24, vi i3), (25, .ps .fopt (s_Stmt.F r1)), (26, vi i3)] ?_
   obtain ⟨x7, hx7, h⟩ := bsome h
   refine One' hT rfl (v_index s_Stmt .fopt r1 .i64 i3 hx7) ?_
   refine Sg hT 1 [1, 5, 6, 24, 28] ⟨[(1, po s_string a1), (5, vs 23 2 s_int (l2 ++ [i3])), (6, .ps .fopt (s_Stmt.F r1)), (24, vi i3), (28, eStmt x7)], [(23, rb 2 s_int (l2 ++ [i3])), (22, ⟨1, 3, 1, false, false, s_int.F [i3]⟩)], 3⟩ ?_
   obtain ⟨r8, hr8, h⟩ := bsome h
   refine Pt' en91 (cost_size_ok hr8) ?_
   refine Sgd hT 2 [1, 5, 6, 7] [(7, vi (wr (i3 + r8)))] ?_
   exact oK [1, 5, 6, 7] [(23, 10005, 0)] ⟨_, by omega, by omega, l2 ++ [i3], wr (i3 + r8), h, rfl⟩
  refine Rgd hT 3 [1, 5, 6, 7] [(7, vi (wr (i3 + 1)))] ?_
  exact oK [1, 5, 6, 7] [(10005, 10005, 0)] ⟨_, by omega, by omega, l2, wr (i3 + 1), h, rfl⟩
 refine WA_exit ?_
 refine Qgd hT 1 [33] [(33, vs 10005 0 s_int l2)] ?_
 refine WO_weak (wF 10005 0 (rb 0 s_int l2) [(33, po s_int l2)] [] ⟨rfl, .hit true, trivial⟩ trivial) ?_
 obtain ⟨r9, hr9, h⟩ := bsome h
 refine Pt' en64 (Clip_int_ok hr9) ?_
 refine Sz hT 1 [4] ⟨[(4, .ps .fopt (s_int.F r9))], [], 1⟩ ?_
 obtain rfl := Option.some.inj h
 exact rK [4] [] ⟨[(4, .ps .fopt (s_int.F r9))], [], 1⟩ ⟨by kernel_rfl, rfl⟩
theorem cost_Guard_ok {n : Nat} {a0 : Prog} {a1 : List ByteArray} {r : Cx} (h : cost_Guard n a0 a1 = some r) : PT Try.prog 49 [eProg a0, po s_string a1] (vz r) := by
 unfold cost_Guard at h
 refine PT_bodyA hT Try.func49 rfl (by kernel_rfl) fun bad w => ?_
 refine Qzh hT 2 [1, 2] [(2, bx 2 0)] [(2, cb 0 26 2 (eProg a0))] 1 ?_
 refine Qz hT 1 [1, 2, 5] ⟨[(1, po s_string a1), (2, bx 2 0), (5, vz (⟨0, 4607182418800017408⟩ : Cx))], [(2, cb 0 26 2 (eProg a0))], 1⟩ ?_
 refine Qg hT 1 [1, 2, 5, 9] ⟨[(1, po s_string a1), (2, bx 2 0), (5, vz (⟨0, 4607182418800017408⟩ : Cx)), (9, eProg a0)], [(2, cb 0 26 2 (eProg a0))], 1⟩ ?_
 obtain ⟨r1, hr1, h⟩ := bsome h
 refine Pt' en51 (cost_Weights_ok hr1) ?_
 refine Sz hT 1 [1, 2, 5, 6] ⟨[(1, po s_string a1), (2, bx 2 0), (5, vz (⟨0, 4607182418800017408⟩ : Cx)), (6, .ps .fopt (s_int.F r1))], [(2, cb 0 26 2 (eProg a0))], 1⟩ ?_
 refine WA_seq ?_
 refine Qg hT 2 [5, 6, 11, 12] ⟨[(5, vz (⟨0, 4607182418800017408⟩ : Cx)), (6, .ps .fopt (s_int.F r1)), (11, eProg a0), (12, po s_string a1)], [(2, cb 0 26 2 (eProg a0))], 1⟩ ?_
 obtain ⟨r2, hr2, h⟩ := bsome h
 refine Pt' en46 (cost_Wrapped_ok hr2) ?_
 refine Sg hT 0 [5, 6, 13] ⟨[(5, vz (⟨0, 4607182418800017408⟩ : Cx)), (6, .ps .fopt (s_int.F r1)), (13, .ps .fopt (s_int.F r2))], [(2, cb 0 26 2 (eProg a0))], 1⟩ ?_
 refine One' hT rfl (v_len s_int .fopt r2) ?_
 refine Sz hT 1 [5, 6, 13, 14, 15] ⟨[(5, vz (⟨0, 4607182418800017408⟩ : Cx)), (6, .ps .fopt (s_int.F r1)), (13, .ps .fopt (s_int.F r2)), (14, vi (ln r2)), (15, vi 0)], [(2, cb 0 26 2 (eProg a0))], 1⟩ ?_
 refine WA_block ?_
 refine lK [5, 6, 13, 14, 15] [] (fun k s => ∃ q, q ≤ k ∧ q ≤ n ∧ ∃ (z3 : Cx), ∃ (i4 : Int), cost_Guard_L0 q a0 a1 r1 r2 z3 i4 = some r ∧ s = ⟨[(5, vz z3), (6, .ps .fopt (s_int.F r1)), (13, .ps .fopt (s_int.F r2)), (14, vi (ln r2)), (15, vi i4)], [], 1⟩) n ⟨n, Nat.le_refl _, Nat.le_refl _, (⟨0, 4607182418800017408⟩ : Cx), 0, h, rfl⟩ (by rintro s ⟨q, hq, _, z3, i4, h, _⟩; obtain rfl := Nat.le_zero.1 hq; rw [cost_Guard_L0] at h; cases h) ?_
 clear h
 rintro k1 s ⟨q1, hk1, hn1, z3, i4, h, rfl⟩
 rcases q1 with _ | q1
 ·rw [cost_Guard_L0] at h; cases h
 rw [cost_Guard_L0] at h
 refine Qzd hT 1 [5, 6, 13, 14, 15, 16] [(16, vb (decide (i4 < (ln r2))))] ?_
 refine WA_seq ?_
 refine Ci h (fun h => ?_) fun h => ?_
 ·refine WA_skip ?_
  refine WA_seq ?_
  refine WA_block ?_
  refine Qgd hT 0 [5, 6, 13, 14, 15] [] ?_
  obtain ⟨x5, hx5, h⟩ := bsome h
  refine One' hT rfl (v_index s_int .fopt r2 .i64 i4 hx5) ?_
  refine Szd hT 2 [5, 6, 8, 13, 14, 15] [(8, vi x5)] ?_
  refine Rgd hT 3 [6, 13, 14, 15, 19, 20, 21] [(19, vz z3), (20, .ps .fopt (s_int.F r1)), (21, vi x5)] ?_
  obtain ⟨x6, hx6, h⟩ := bsome h
  refine One' hT rfl (v_index s_int .fopt r1 .i64 x5 hx6) ?_
  refine Sgd hT 1 [6, 13, 14, 15, 19, 23] [(23, vi x6)] ?_
  obtain ⟨r7, hr7, h⟩ := bsome h
  refine Pt' en93 (cost_whole_ok hr7) ?_
  refine Sgd hT 0 [6, 13, 14, 15, 19, 24] [(24, vz r7)] ?_
  obtain ⟨z8, hz8, h⟩ := bsome h
  refine One' hT rfl (ev_cmul (⟨4611686018427387904, 0⟩ : Cx) r7 hz8 (by kernel_rfl) (by kernel_rfl)) ?_
  refine Sg hT 0 [6, 13, 14, 15, 19, 25] ⟨[(6, .ps .fopt (s_int.F r1)), (13, .ps .fopt (s_int.F r2)), (14, vi (ln r2)), (15, vi i4), (19, vz z3), (25, vz z8)], [], 1⟩ ?_
  obtain ⟨z9, hz9, h⟩ := bsome h
  refine One' hT rfl (ev_cadd z3 z8 hz9 (by kernel_rfl) (by kernel_rfl)) ?_
  refine Szd hT 1 [5, 6, 13, 14, 15] [(5, vz z9)] ?_
  refine Rgd hT 2 [5, 6, 13, 14, 15] [(15, vi (wr (i4 + 1)))] ?_
  exact oK [5, 6, 13, 14, 15] [] ⟨_, by omega, by omega, z9, wr (i4 + 1), h, rfl⟩
 refine WA_exit ?_
 refine Qz hT 2 [4] ⟨[(4, vz z3)], [], 1⟩ ?_
 obtain rfl := Option.some.inj h
 exact rK [4] [] ⟨[(4, vz z3)], [], 1⟩ ⟨by kernel_rfl, rfl⟩
theorem law22_known_ok {n : Nat} {r : Bool} (h : law22_known n = some r) : PT Try.prog 50 [] (vb r) := by
 unfold law22_known at h
 refine PT_bodyA hT Try.func50 rfl (by kernel_rfl) fun bad w => ?_
 refine Qz hT 1 [] ⟨[], [], 0⟩ ?_
 refine WA_seq ?_
 refine WA_region ?_
 obtain ⟨r1, hr1, h⟩ := bsome h
 refine Pt' en43 (law22_read_ok hr1) ?_
 refine Sz hT 2 [1] ⟨[(1, bx 1 0)], [(1, cb 0 26 2 (eProg r1))], 1⟩ ?_
 refine WA_seq ?_
 obtain ⟨J3, hJ3, h⟩ := jsome h
 refine WA_join (fun s => ∃ (b2 : Bool), J3 b2 = some r ∧ s = ⟨[(0, vb b2)], [], 1⟩) ?_ ?_
 ·refine Rg hT 2 [1, 3, 4] ⟨[(1, bx 1 0), (3, eProg r1), (4, vs 4 1 s_string [k_x])], [(4, ⟨1, 9, 1, false, false, s_string.F [k_x]⟩), (1, cb 0 26 2 (eProg r1))], 2⟩ ?_
  refine WO_weak (wF 4 1 ⟨1, 9, 1, false, false, s_string.F [k_x]⟩ [(1, bx 1 0), (3, eProg r1), (4, po s_string [k_x])] [(1, cb 0 26 2 (eProg r1))] ⟨rfl, .keep _, rfl, .keep _, rfl, .hit true, trivial⟩ ⟨rfl, .inl rfl, trivial⟩) ?_
  obtain ⟨r4, hr4, h⟩ := bsome h
  refine Pt' en46 (cost_Wrapped_ok hr4) ?_
  refine Sgd hT 0 [1, 5] [(5, .ps .fopt (s_int.F r4))] ?_
  refine One' hT rfl (v_len s_int .fopt r4) ?_
  refine Sgd hT 2 [1, 8] [(8, vb ((ln r4) == 1))] ?_
  cases hb : (((ln r4) == 1) : Bool)
  ·replace h := cfalse hb h
   refine Sgd hT 11 [0] [(0, vb false)] ?_
   exact oK [0] [] ⟨false, h, rfl⟩
  replace h := ctrue hb h
  refine Sgh hT 2 [1, 8, 9, 10] [(9, eProg r1), (10, vs 10 2 s_string [k_x])] [(10, ⟨2, 9, 1, false, false, s_string.F [k_x]⟩), (1, cb 0 26 2 (eProg r1))] 3 ?_
  refine WO_weak (wF 10 2 ⟨2, 9, 1, false, false, s_string.F [k_x]⟩ [(1, bx 1 0), (8, vb true), (9, eProg r1), (10, po s_string [k_x])] [(1, cb 0 26 2 (eProg r1))] ⟨rfl, .keep _, rfl, .keep _, rfl, .keep _, rfl, .hit true, trivial⟩ ⟨rfl, .inl rfl, trivial⟩) ?_
  obtain ⟨r5, hr5, h⟩ := bsome h
  refine Pt' en49 (cost_Guard_ok hr5) ?_
  refine Sg hT 3 [1, 14] ⟨[(1, bx 1 0), (14, vb ((FloatKind.f64.format.order r5.re (⟨4618441417868443648, 4607182418800017408⟩ : Cx).re == some .eq) && (FloatKind.f64.format.order r5.im (⟨4618441417868443648, 4607182418800017408⟩ : Cx).im == some .eq)))], [(1, cb 0 26 2 (eProg r1))], 3⟩ ?_
  cases hb : (((FloatKind.f64.format.order r5.re (⟨4618441417868443648, 4607182418800017408⟩ : Cx).re == some .eq) && (FloatKind.f64.format.order r5.im (⟨4618441417868443648, 4607182418800017408⟩ : Cx).im == some .eq)) : Bool)
  ·replace h := cfalse hb h
   refine Sgd hT 5 [0] [(0, vb false)] ?_
   exact oK [0] [] ⟨false, h, rfl⟩
  replace h := ctrue hb h
  refine Sgd hT 1 [14, 15] [(15, eProg r1)] ?_
  obtain ⟨r6, hr6, h⟩ := bsome h
  refine Pt' en52 (cost_Upgrade_ok hr6) ?_
  refine Sg hT 3 [0] ⟨[(0, vb ((FloatKind.f64.format.order r6.re (⟨4613937818241073152, 4607182418800017408⟩ : Cx).re == some .eq) && (FloatKind.f64.format.order r6.im (⟨4613937818241073152, 4607182418800017408⟩ : Cx).im == some .eq)))], [(1, cb 0 26 2 (eProg r1))], 3⟩ ?_
  exact oK [0] [] ⟨((FloatKind.f64.format.order r6.re (⟨4613937818241073152, 4607182418800017408⟩ : Cx).re == some .eq) && (FloatKind.f64.format.order r6.im (⟨4613937818241073152, 4607182418800017408⟩ : Cx).im == some .eq)), h, rfl⟩
 subst hJ3
 rintro s ⟨b2, h, rfl⟩
 obtain rfl := Option.some.inj h
 exact rK [0] [] ⟨[(0, vb b2)], [], 1⟩ ⟨by kernel_rfl, rfl⟩
def law22_within_spec (n : Nat) : Prop := (∀ {a0 : Stmt} {r : Int}, law22_within n a0 = some r → PT Try.prog 48 [eStmt a0] (vi r))
theorem law22_within_step (n : Nat) (ih : ∀ m, m < n → law22_within_spec m) : ∀ {a0 : Stmt} {r : Int}, law22_within n a0 = some r → PT Try.prog 48 [eStmt a0] (vi r) := by
 intro a0 r h
 rcases n with _ | n
 ·rw [law22_within] at h; cases h
 rw [law22_within] at h
 refine PT_bodyA hT Try.func48 rfl (by kernel_rfl) fun bad w => ?_
 refine Qz hT 2 [1] ⟨[(1, bx 1 0)], [(1, cb 0 38 11 (eStmt a0))], 1⟩ ?_
 refine Qzd hT 1 [1, 3] [(3, vi 0)] ?_
 refine WA_seq ?_
 refine Qgd hT 2 [1, 3, 9] [(9, po s_Stmt a0.Body)] ?_
 refine One' hT rfl (v_len s_Stmt .opt a0.Body) ?_
 refine Szd hT 1 [1, 3, 9, 10, 11] [(10, vi (ln a0.Body)), (11, vi 0)] ?_
 refine WA_block ?_
 refine lK [1, 3, 9, 10, 11] [(1, 1, 0)] (fun k s => ∃ q, q ≤ k ∧ q ≤ n ∧ ∃ (i1 : Int), ∃ (i2 : Int), law22_within_L0 q a0 i1 i2 = some r ∧ s = ⟨[(1, bx 1 0), (3, vi i1), (9, po s_Stmt a0.Body), (10, vi (ln a0.Body)), (11, vi i2)], [(1, cb 0 38 11 (eStmt a0))], 1⟩) n ⟨n, Nat.le_refl _, Nat.le_refl _, 0, 0, h, rfl⟩ (by rintro s ⟨q, hq, _, i1, i2, h, _⟩; obtain rfl := Nat.le_zero.1 hq; rw [law22_within_L0] at h; cases h) ?_
 clear h
 rintro k1 s ⟨q1, hk1, hn1, i1, i2, h, rfl⟩
 rcases q1 with _ | q1
 ·rw [law22_within_L0] at h; cases h
 rw [law22_within_L0] at h
 refine Qzd hT 1 [1, 3, 9, 10, 11, 12] [(12, vb (decide (i2 < (ln a0.Body))))] ?_
 refine WA_seq ?_
 refine Ci h (fun h => ?_) fun h => ?_
 ·refine WA_skip ?_
  refine WA_seq ?_
  refine WA_block ?_
  refine Qgd hT 0 [1, 3, 9, 10, 11] [] ?_
  obtain ⟨x3, hx3, h⟩ := bsome h
  refine One' hT rfl (v_index s_Stmt .opt a0.Body .i64 i2 hx3) ?_
  refine Sz hT 3 [1, 3, 5, 9, 10, 11] ⟨[(1, bx 1 0), (3, vi i1), (5, bx 5 1), (9, po s_Stmt a0.Body), (10, vi (ln a0.Body)), (11, vi i2)], [(5, cb 1 38 11 (eStmt x3)), (1, cb 0 38 11 (eStmt a0))], 2⟩ ?_
  refine Rgd hT 3 [1, 9, 10, 11, 16, 17] [(16, vi (wr (i1 + 1))), (17, eStmt x3)] ?_
  obtain ⟨r4, hr4, h⟩ := bsome h
  refine Pt' en48 ((ih _ (by omega)) hr4) ?_
  refine Szd hT 2 [1, 3, 9, 10, 11] [(3, vi (wr ((wr (i1 + 1)) + r4)))] ?_
  refine Rgd hT 2 [1, 3, 9, 10, 11] [(11, vi (wr (i2 + 1)))] ?_
  exact oK [1, 3, 9, 10, 11] [(1, 1, 0)] ⟨_, by omega, by omega, wr ((wr (i1 + 1)) + r4), wr (i2 + 1), h, rfl⟩
 refine WA_exit ?_
 refine WA_seq ?_
 refine Qgd hT 2 [3, 22] [(22, po s_Stmt a0.Else)] ?_
 refine One' hT rfl (v_len s_Stmt .opt a0.Else) ?_
 refine Szd hT 1 [3, 22, 23, 24] [(23, vi (ln a0.Else)), (24, vi 0)] ?_
 refine WA_block ?_
 refine lK [3, 22, 23, 24] [] (fun k s => ∃ q, q ≤ k ∧ q ≤ q1 ∧ ∃ (i5 : Int), ∃ (i6 : Int), law22_within_L1 q a0 i1 i2 i5 i6 = some r ∧ s = ⟨[(3, vi i5), (22, po s_Stmt a0.Else), (23, vi (ln a0.Else)), (24, vi i6)], [], 1⟩) q1 ⟨q1, Nat.le_refl _, Nat.le_refl _, i1, 0, h, rfl⟩ (by rintro s ⟨q, hq, _, i5, i6, h, _⟩; obtain rfl := Nat.le_zero.1 hq; rw [law22_within_L1] at h; cases h) ?_
 clear h
 rintro k2 s ⟨q2, hk2, hn2, i5, i6, h, rfl⟩
 rcases q2 with _ | q2
 ·rw [law22_within_L1] at h; cases h
 rw [law22_within_L1] at h
 refine Qz hT 1 [3, 22, 23, 24, 25] ⟨[(3, vi i5), (22, po s_Stmt a0.Else), (23, vi (ln a0.Else)), (24, vi i6), (25, vb (decide (i6 < (ln a0.Else))))], [], 1⟩ ?_
 refine WA_seq ?_
 refine Ci h (fun h => ?_) fun h => ?_
 ·refine WA_skip ?_
  refine WA_seq ?_
  refine WA_block ?_
  refine Qgd hT 0 [3, 22, 23, 24] [] ?_
  obtain ⟨x7, hx7, h⟩ := bsome h
  refine One' hT rfl (v_index s_Stmt .opt a0.Else .i64 i6 hx7) ?_
  refine Szh hT 3 [3, 7, 22, 23, 24] [(7, bx 7 1)] [(7, cb 1 38 11 (eStmt x7))] 2 ?_
  refine Rgd hT 3 [22, 23, 24, 29, 30] [(29, vi (wr (i5 + 1))), (30, eStmt x7)] ?_
  obtain ⟨r8, hr8, h⟩ := bsome h
  refine Pt' en48 ((ih _ (by omega)) hr8) ?_
  refine Szd hT 2 [3, 22, 23, 24] [(3, vi (wr ((wr (i5 + 1)) + r8)))] ?_
  refine Rgd hT 2 [3, 22, 23, 24] [(24, vi (wr (i6 + 1)))] ?_
  exact oK [3, 22, 23, 24] [] ⟨_, by omega, by omega, wr ((wr (i5 + 1)) + r8), wr (i6 + 1), h, rfl⟩
 refine WA_exit ?_
 refine Qz hT 2 [2] ⟨[(2, vi i5)], [], 1⟩ ?_
 obtain rfl := Option.some.inj h
 exact rK [2] [] ⟨[(2, vi i5)], [], 1⟩ ⟨by kernel_rfl, rfl⟩
theorem law22_within_all (n : Nat) : law22_within_spec n := by
 induction n using Nat.strongRecOn with
 | _ n ih => exact law22_within_step n ih
theorem law22_within_ok {n : Nat} {a0 : Stmt} {r : Int} (h : law22_within n a0 = some r) : PT Try.prog 48 [eStmt a0] (vi r) := (law22_within_all n) h
theorem law22_CostHolds_ok {n : Nat} {a0 : Int} {a1 : List Act} {a2 : List Act} {a3 : List Act} {a4 : Int} {a5 : Int} {r : Bool} (h : law22_CostHolds n a0 a1 a2 a3 a4 a5 = some r) : PT Try.prog 12 [vi a0, po s_Act a1, po s_Act a2, po s_Act a3, vi a4, vi a5] (vb r) := by
 unfold law22_CostHolds at h
 refine PT_bodyA hT Try.func12 rfl (by kernel_rfl) fun bad w => ?_
 refine Qzd hT 1 [0, 1, 2, 3, 4, 5] [] ?_
 refine Qgd hT 4 [4, 5, 36, 37, 38, 39] [(36, vi a0), (37, po s_Act a1), (38, po s_Act a2), (39, po s_Act a3)] ?_
 obtain ⟨r1, hr1, h⟩ := bsome h
 refine Pt' en38 (hand_Good_ok hr1) ?_
 refine Sgd hT 0 [4, 5, 40] [(40, vw r1)] ?_
 obtain ⟨r2, hr2, h⟩ := bsome h
 refine Pt' en43 (law22_read_ok hr2) ?_
 refine Szh hT 2 [4, 5, 13] [(13, bx 13 0)] [(13, cb 0 26 2 (eProg r2))] 1 ?_
 refine Qgd hT 1 [5, 13, 42] [(42, vi a4)] ?_
 obtain ⟨r3, hr3, h⟩ := bsome h
 refine Pt' en17 (hand_Pick_ok hr3) ?_
 refine Sgd hT 0 [5, 13, 43] [(43, vi r3)] ?_
 obtain ⟨r4, hr4, h⟩ := bsome h
 refine Og [] [(100, rb 1 s_string r4)] [vi r3] [vi r3] [] [(100, 44, 1)] [(44, rb 1 s_string r4)] (vs 100 1 s_string r4) (vs 44 1 s_string r4) 2 en44 (law22_some_ok hr4) ?_
 refine Szh hT 1 [5, 13, 14] [(14, vs 44 1 s_string r4)] [(44, rb 1 s_string r4), (13, cb 0 26 2 (eProg r2))] 2 ?_
 refine Qgd hT 1 [13, 14, 45] [(45, vi a5)] ?_
 obtain ⟨r5, hr5, h⟩ := bsome h
 refine Pt' en17 (hand_Pick_ok hr5) ?_
 refine Sg hT 0 [13, 14, 46] ⟨[(13, bx 13 0), (14, vs 44 1 s_string r4), (46, vi r5)], [(44, rb 1 s_string r4), (13, cb 0 26 2 (eProg r2))], 2⟩ ?_
 obtain ⟨r6, hr6, h⟩ := bsome h
 refine Og [] [(100, rb 1 s_string r6)] [vi r5] [vi r5] [] [(100, 47, 2)] [(47, rb 2 s_string r6)] (vs 100 1 s_string r6) (vs 47 2 s_string r6) 3 en44 (law22_some_ok hr6) ?_
 refine Sgh hT 1 [13, 14, 47, 48] [(47, vs 47 2 s_string r6), (48, vs 44 1 s_string r4)] [(47, rb 2 s_string r6), (44, rb 1 s_string r4), (13, cb 0 26 2 (eProg r2))] 3 ?_
 obtain ⟨g7, h⟩ := gsome h
 refine Oa hT s_string 47 2 true r6 r4 (eO s_string 44 1 true (rb 1 s_string r4) r4) g7 ?_
 refine Szh hT 1 [13, 14, 15] [(15, vs 49 3 s_string (r6 ++ r4))] [(49, rb 3 s_string (r6 ++ r4)), (44, rb 1 s_string r4), (13, cb 0 26 2 (eProg r2))] 4 ?_
 refine Qgd hT 1 [13, 14, 15, 50] [(50, eProg r2)] ?_
 obtain ⟨r8, hr8, h⟩ := bsome h
 refine Og [] [(100, rb 1 s_Stmt r8)] [eProg r2] [eProg r2] [] [(100, 51, 4)] [(51, rb 4 s_Stmt r8)] (vs 100 1 s_Stmt r8) (vs 51 4 s_Stmt r8) 5 en45 (ref1_List_ok hr8) ?_
 refine Szh hT 1 [13, 14, 15, 16] [(16, vs 51 4 s_Stmt r8)] [(51, rb 4 s_Stmt r8), (49, rb 3 s_string (r6 ++ r4)), (44, rb 1 s_string r4), (13, cb 0 26 2 (eProg r2))] 5 ?_
 refine Qgd hT 2 [13, 14, 15, 16, 52, 53] [(52, eProg r2), (53, vs 44 1 s_string r4)] ?_
 refine WO_weak (wF 44 1 (rb 1 s_string r4) [(13, bx 13 0), (14, po s_string r4), (15, vs 49 3 s_string (r6 ++ r4)), (16, vs 51 4 s_Stmt r8), (52, eProg r2), (53, po s_string r4)] [(51, rb 4 s_Stmt r8), (49, rb 3 s_string (r6 ++ r4)), (13, cb 0 26 2 (eProg r2))] ⟨rfl, .keep _, rfl, .hit true, rfl, .keep _, rfl, .keep _, rfl, .keep _, rfl, .hit true, trivial⟩ ⟨rfl, .inl rfl, rfl, .inl rfl, rfl, .inl rfl, trivial⟩) ?_
 obtain ⟨r9, hr9, h⟩ := bsome h
 refine Pt' en46 (cost_Wrapped_ok hr9) ?_
 refine Szd hT 1 [13, 14, 15, 16, 17] [(17, .ps .fopt (s_int.F r9))] ?_
 refine WA_seq ?_
 refine Qgd hT 1 [13, 14, 15, 16, 17, 55] [(55, vs 51 4 s_Stmt r8)] ?_
 refine One' hT rfl (v_len_own s_Stmt 51 4 true (rb 4 s_Stmt r8) r8) ?_
 refine Szd hT 1 [13, 14, 15, 16, 17, 55, 56, 57] [(56, vi (ln r8)), (57, vi 0)] ?_
 refine WA_block ?_
 refine lK [13, 14, 15, 16, 17, 55, 56, 57] [(13, 13, 0), (49, 49, 0), (51, 51, 0)] (fun k s => ∃ q, q ≤ k ∧ q ≤ n ∧ ∃ (i10 : Int), law22_CostHolds_L0 q a0 a1 a2 a3 a4 a5 r1 r2 r3 r4 r5 r6 r8 r9 i10 = some r ∧ s = ⟨[(13, bx 13 0), (14, po s_string r4), (15, vs 49 0 s_string (r6 ++ r4)), (16, vs 51 0 s_Stmt r8), (17, .ps .fopt (s_int.F r9)), (55, vs 51 0 s_Stmt r8), (56, vi (ln r8)), (57, vi i10)], [(13, cb 0 26 2 (eProg r2)), (49, rb 0 s_string (r6 ++ r4)), (51, rb 0 s_Stmt r8)], 1⟩) n ⟨n, Nat.le_refl _, Nat.le_refl _, 0, h, rfl⟩ (by rintro s ⟨q, hq, _, i10, h, _⟩; obtain rfl := Nat.le_zero.1 hq; rw [law22_CostHolds_L0] at h; cases h) ?_
 clear h
 rintro k1 s ⟨q1, hk1, hn1, i10, h, rfl⟩
 rcases q1 with _ | q1
 ·rw [law22_CostHolds_L0] at h; cases h
 rw [law22_CostHolds_L0] at h
 refine Qzd hT 1 [13, 14, 15, 16, 17, 55, 56, 57, 58] [(58, vb (decide (i10 < (ln r8))))] ?_
 refine WA_seq ?_
 refine Ci h (fun h => ?_) fun h => ?_
 ·refine WA_skip ?_
  refine WA_seq ?_
  refine WA_block ?_
  refine Qgd hT 1 [13, 14, 15, 16, 17, 55, 56, 57, 59] [(59, vi i10)] ?_
  obtain ⟨x11, hx11, h⟩ := bsome h
  refine One' hT rfl (v_index_own s_Stmt 51 0 true (rb 0 s_Stmt r8) r8 .i64 i10 hx11) ?_
  refine Sgd hT 0 [13, 14, 15, 16, 17, 55, 56, 57, 59, 60] [(60, .box 51 0 i10.toNat 0)] ?_
  refine One' hT rfl (v_load_row s_Stmt 51 0 (rb 0 s_Stmt r8) r8 i10.toNat 0 x11 (eStmt x11) (idx_some hx11).2) ?_
  refine Szh hT 3 [13, 14, 15, 16, 17, 18, 19, 55, 56, 57] [(18, vi i10), (19, bx 19 1)] [(19, cb 1 38 11 (eStmt x11)), (13, cb 0 26 2 (eProg r2)), (49, rb 0 s_string (r6 ++ r4)), (51, rb 0 s_Stmt r8)] 2 ?_
  refine Qz hT 1 [13, 14, 15, 16, 17, 18, 19, 20, 55, 56, 57] ⟨[(13, bx 13 0), (14, po s_string r4), (15, vs 49 0 s_string (r6 ++ r4)), (16, vs 51 0 s_Stmt r8), (17, .ps .fopt (s_int.F r9)), (18, vi i10), (19, bx 19 1), (20, vb false), (55, vs 51 0 s_Stmt r8), (56, vi (ln r8)), (57, vi i10)], [(19, cb 1 38 11 (eStmt x11)), (13, cb 0 26 2 (eProg r2)), (49, rb 0 s_string (r6 ++ r4)), (51, rb 0 s_Stmt r8)], 2⟩ ?_
  refine WA_seq ?_
  refine Qgd hT 1 [13, 14, 15, 16, 17, 18, 20, 55, 56, 57, 62] [(62, eStmt x11)] ?_
  obtain ⟨r12, hr12, h⟩ := bsome h
  refine Og [] [(100, rb 1 s_string r12)] [eStmt x11] [eStmt x11] [] [(100, 63, 2)] [(63, rb 2 s_string r12)] (vs 100 1 s_string r12) (vs 63 2 s_string r12) 3 en47 (ref1_Touches_ok hr12) ?_
  refine Sgh hT 0 [13, 14, 15, 16, 17, 18, 20, 55, 56, 57, 63] [(63, vs 63 2 s_string r12)] [(63, rb 2 s_string r12), (19, cb 1 38 11 (eStmt x11)), (13, cb 0 26 2 (eProg r2)), (49, rb 0 s_string (r6 ++ r4)), (51, rb 0 s_Stmt r8)] 3 ?_
  refine One' hT rfl (v_len_own s_string 63 2 true (rb 2 s_string r12) r12) ?_
  refine Szd hT 1 [13, 14, 15, 16, 17, 18, 20, 55, 56, 57, 63, 64, 65] [(64, vi (ln r12)), (65, vi 0)] ?_
  refine WA_block ?_
  refine lK [13, 14, 15, 16, 17, 18, 20, 55, 56, 57, 63, 64, 65] [(13, 13, 0), (49, 49, 0), (51, 51, 0), (63, 63, 0)] (fun k s => ∃ q, q ≤ k ∧ q ≤ q1 ∧ ∃ (b13 : Bool), ∃ (i14 : Int), law22_CostHolds_L1 q a0 a1 a2 a3 a4 a5 r1 r2 r3 r4 r5 r6 r8 r9 i10 x11 r12 b13 i14 = some r ∧ s = ⟨[(13, bx 13 0), (14, po s_string r4), (15, vs 49 0 s_string (r6 ++ r4)), (16, vs 51 0 s_Stmt r8), (17, .ps .fopt (s_int.F r9)), (18, vi i10), (20, vb b13), (55, vs 51 0 s_Stmt r8), (56, vi (ln r8)), (57, vi i10), (63, vs 63 0 s_string r12), (64, vi (ln r12)), (65, vi i14)], [(13, cb 0 26 2 (eProg r2)), (49, rb 0 s_string (r6 ++ r4)), (51, rb 0 s_Stmt r8), (63, rb 0 s_string r12)], 1⟩) q1 ⟨q1, Nat.le_refl _, Nat.le_refl _, false, 0, h, rfl⟩ (by rintro s ⟨q, hq, _, b13, i14, h, _⟩; obtain rfl := Nat.le_zero.1 hq; rw [law22_CostHolds_L1] at h; cases h) ?_
  clear h
  rintro k2 s ⟨q2, hk2, hn2, b13, i14, h, rfl⟩
  rcases q2 with _ | q2
  ·rw [law22_CostHolds_L1] at h; cases h
  rw [law22_CostHolds_L1] at h
  refine Qzd hT 1 [13, 14, 15, 16, 17, 18, 20, 55, 56, 57, 63, 64, 65, 66] [(66, vb (decide (i14 < (ln r12))))] ?_
  refine WA_seq ?_
  refine Ci h (fun h => ?_) fun h => ?_
  ·refine WA_skip ?_
   refine WA_seq ?_
   refine WA_block ?_
   refine Qgd hT 0 [13, 14, 15, 16, 17, 18, 20, 55, 56, 57, 63, 64, 65] [] ?_
   obtain ⟨x15, hx15, h⟩ := bsome h
   refine One' hT rfl (v_index_own s_string 63 0 true (rb 0 s_string r12) r12 .i64 i14 hx15) ?_
   refine Sgd hT 0 [13, 14, 15, 16, 17, 18, 20, 55, 56, 57, 63, 64, 65, 67] [(67, .box 63 0 i14.toNat 0)] ?_
   refine One' hT rfl (v_load_row s_string 63 0 (rb 0 s_string r12) r12 i14.toNat 0 x15 (vw x15) (idx_some hx15).2) ?_
   refine Szd hT 1 [13, 14, 15, 16, 17, 18, 20, 22, 55, 56, 57, 63, 64, 65] [(22, vw x15)] ?_
   refine Qg hT 1 [13, 14, 15, 16, 17, 18, 20, 22, 55, 56, 57, 63, 64, 65, 69] ⟨[(13, bx 13 0), (14, po s_string r4), (15, vs 49 0 s_string (r6 ++ r4)), (16, vs 51 0 s_Stmt r8), (17, .ps .fopt (s_int.F r9)), (18, vi i10), (20, vb b13), (22, vw x15), (55, vs 51 0 s_Stmt r8), (56, vi (ln r8)), (57, vi i10), (63, vs 63 0 s_string r12), (64, vi (ln r12)), (65, vi i14), (69, po s_string r4)], [(13, cb 0 26 2 (eProg r2)), (49, rb 0 s_string (r6 ++ r4)), (51, rb 0 s_Stmt r8), (63, rb 0 s_string r12)], 1⟩ ?_
   refine One' hT rfl (v_len s_string .opt r4) ?_
   refine Szd hT 1 [13, 14, 15, 16, 17, 18, 20, 22, 55, 56, 57, 63, 64, 65, 69, 70, 71] [(70, vi (ln r4)), (71, vi 0)] ?_
   refine WA_block ?_
   refine lK [13, 14, 15, 16, 17, 18, 20, 22, 55, 56, 57, 63, 64, 65, 69, 70, 71] [(13, 13, 0), (49, 49, 0), (51, 51, 0), (63, 63, 0)] (fun k s => ∃ q, q ≤ k ∧ q ≤ q2 ∧ ∃ (b16 : Bool), ∃ (i17 : Int), law22_CostHolds_L2 q a0 a1 a2 a3 a4 a5 r1 r2 r3 r4 r5 r6 r8 r9 i10 x11 r12 b13 i14 x15 b16 i17 = some r ∧ s = ⟨[(13, bx 13 0), (14, po s_string r4), (15, vs 49 0 s_string (r6 ++ r4)), (16, vs 51 0 s_Stmt r8), (17, .ps .fopt (s_int.F r9)), (18, vi i10), (20, vb b16), (22, vw x15), (55, vs 51 0 s_Stmt r8), (56, vi (ln r8)), (57, vi i10), (63, vs 63 0 s_string r12), (64, vi (ln r12)), (65, vi i14), (69, po s_string r4), (70, vi (ln r4)), (71, vi i17)], [(13, cb 0 26 2 (eProg r2)), (49, rb 0 s_string (r6 ++ r4)), (51, rb 0 s_Stmt r8), (63, rb 0 s_string r12)], 1⟩) q2 ⟨q2, Nat.le_refl _, Nat.le_refl _, b13, 0, h, rfl⟩ (by rintro s ⟨q, hq, _, b16, i17, h, _⟩; obtain rfl := Nat.le_zero.1 hq; rw [law22_CostHolds_L2] at h; cases h) ?_
   clear h
   rintro k3 s ⟨q3, hk3, hn3, b16, i17, h, rfl⟩
   rcases q3 with _ | q3
   ·rw [law22_CostHolds_L2] at h; cases h
   rw [law22_CostHolds_L2] at h
   refine Qzd hT 1 [13, 14, 15, 16, 17, 18, 20, 22, 55, 56, 57, 63, 64, 65, 69, 70, 71, 72] [(72, vb (decide (i17 < (ln r4))))] ?_
   refine WA_seq ?_
   refine Ci h (fun h => ?_) fun h => ?_
   ·refine WA_skip ?_
    refine WA_seq ?_
    obtain ⟨J19, hJ19, h⟩ := jsome h
    refine WA_join (fun s => ∃ (b18 : Bool), J19 b18 = some r ∧ s = ⟨[(13, bx 13 0), (14, po s_string r4), (15, vs 49 0 s_string (r6 ++ r4)), (16, vs 51 0 s_Stmt r8), (17, .ps .fopt (s_int.F r9)), (18, vi i10), (20, vb b18), (22, vw x15), (55, vs 51 0 s_Stmt r8), (56, vi (ln r8)), (57, vi i10), (63, vs 63 0 s_string r12), (64, vi (ln r12)), (65, vi i14), (69, po s_string r4), (70, vi (ln r4)), (71, vi i17)], [(13, cb 0 26 2 (eProg r2)), (49, rb 0 s_string (r6 ++ r4)), (51, rb 0 s_Stmt r8), (63, rb 0 s_string r12)], 1⟩) ?_ ?_
    ·refine WA_block ?_
     refine Qgd hT 0 [13, 14, 15, 16, 17, 18, 20, 22, 55, 56, 57, 63, 64, 65, 69, 70, 71] [] ?_
     obtain ⟨x20, hx20, h⟩ := bsome h
     refine One' hT rfl (v_index s_string .opt r4 .i64 i17 hx20) ?_
     refine Szd hT 2 [13, 14, 15, 16, 17, 18, 20, 22, 24, 55, 56, 57, 63, 64, 65, 69, 70, 71] [(24, vw x20)] ?_
     refine Rgd hT 2 [13, 14, 15, 16, 17, 18, 22, 24, 55, 56, 57, 63, 64, 65, 69, 70, 71, 76] [(76, vb b16)] ?_
     cases hb : (b16 : Bool)
     ·replace h := cfalse hb h
      refine Sgd hT 5 [13, 14, 15, 16, 17, 18, 20, 22, 55, 56, 57, 63, 64, 65, 69, 70, 71] [(20, vb (bytesEq x15 x20))] ?_
      exact oK [13, 14, 15, 16, 17, 18, 20, 22, 55, 56, 57, 63, 64, 65, 69, 70, 71] [(13, 13, 0), (49, 49, 0), (51, 51, 0), (63, 63, 0)] ⟨bytesEq x15 x20, h, rfl⟩
     replace h := ctrue hb h
     refine Sg hT 5 [13, 14, 15, 16, 17, 18, 20, 22, 55, 56, 57, 63, 64, 65, 69, 70, 71] ⟨[(13, bx 13 0), (14, po s_string r4), (15, vs 49 0 s_string (r6 ++ r4)), (16, vs 51 0 s_Stmt r8), (17, .ps .fopt (s_int.F r9)), (18, vi i10), (20, vb true), (22, vw x15), (55, vs 51 0 s_Stmt r8), (56, vi (ln r8)), (57, vi i10), (63, vs 63 0 s_string r12), (64, vi (ln r12)), (65, vi i14), (69, po s_string r4), (70, vi (ln r4)), (71, vi i17)], [(13, cb 0 26 2 (eProg r2)), (49, rb 0 s_string (r6 ++ r4)), (51, rb 0 s_Stmt r8), (63, rb 0 s_string r12)], 1⟩ ?_
     exact oK [13, 14, 15, 16, 17, 18, 20, 22, 55, 56, 57, 63, 64, 65, 69, 70, 71] [(13, 13, 0), (49, 49, 0), (51, 51, 0), (63, 63, 0)] ⟨true, h, rfl⟩
    subst hJ19
    rintro s ⟨b18, h, rfl⟩
    skip
    refine Rgd hT 2 [13, 14, 15, 16, 17, 18, 20, 22, 55, 56, 57, 63, 64, 65, 69, 70, 71] [(71, vi (wr (i17 + 1)))] ?_
    exact oK [13, 14, 15, 16, 17, 18, 20, 22, 55, 56, 57, 63, 64, 65, 69, 70, 71] [(13, 13, 0), (49, 49, 0), (51, 51, 0), (63, 63, 0)] ⟨_, by omega, by omega, b18, wr (i17 + 1), h, rfl⟩
   refine WA_exit ?_
   refine Rgd hT 2 [13, 14, 15, 16, 17, 18, 20, 55, 56, 57, 63, 64, 65] [(65, vi (wr (i14 + 1)))] ?_
   exact oK [13, 14, 15, 16, 17, 18, 20, 55, 56, 57, 63, 64, 65] [(13, 13, 0), (49, 49, 0), (51, 51, 0), (63, 63, 0)] ⟨_, by omega, by omega, b16, wr (i14 + 1), h, rfl⟩
  refine WA_exit ?_
  refine Qzd hT 1 [13, 14, 15, 16, 17, 18, 20, 25, 55, 56, 57] [(25, vi 0)] ?_
  refine WA_seq ?_
  refine Qgd hT 1 [13, 14, 15, 16, 17, 18, 20, 25, 55, 56, 57, 83] [(83, .ps .fopt (s_int.F r9))] ?_
  refine One' hT rfl (v_len s_int .fopt r9) ?_
  refine Szd hT 1 [13, 14, 15, 16, 17, 18, 20, 25, 55, 56, 57, 83, 84, 85] [(84, vi (ln r9)), (85, vi 0)] ?_
  refine WA_block ?_
  refine lK [13, 14, 15, 16, 17, 18, 20, 25, 55, 56, 57, 83, 84, 85] [(13, 13, 0), (49, 49, 0), (51, 51, 0)] (fun k s => ∃ q, q ≤ k ∧ q ≤ q2 ∧ ∃ (i21 : Int), ∃ (i22 : Int), law22_CostHolds_L3 q a0 a1 a2 a3 a4 a5 r1 r2 r3 r4 r5 r6 r8 r9 i10 x11 r12 b13 i14 i21 i22 = some r ∧ s = ⟨[(13, bx 13 0), (14, po s_string r4), (15, vs 49 0 s_string (r6 ++ r4)), (16, vs 51 0 s_Stmt r8), (17, .ps .fopt (s_int.F r9)), (18, vi i10), (20, vb b13), (25, vi i21), (55, vs 51 0 s_Stmt r8), (56, vi (ln r8)), (57, vi i10), (83, .ps .fopt (s_int.F r9)), (84, vi (ln r9)), (85, vi i22)], [(13, cb 0 26 2 (eProg r2)), (49, rb 0 s_string (r6 ++ r4)), (51, rb 0 s_Stmt r8)], 1⟩) q2 ⟨q2, Nat.le_refl _, Nat.le_refl _, 0, 0, h, rfl⟩ (by rintro s ⟨q, hq, _, i21, i22, h, _⟩; obtain rfl := Nat.le_zero.1 hq; rw [law22_CostHolds_L3] at h; cases h) ?_
  clear h
  rintro k3 s ⟨q3, hk3, hn3, i21, i22, h, rfl⟩
  rcases q3 with _ | q3
  ·rw [law22_CostHolds_L3] at h; cases h
  rw [law22_CostHolds_L3] at h
  refine Qzd hT 1 [13, 14, 15, 16, 17, 18, 20, 25, 55, 56, 57, 83, 84, 85, 86] [(86, vb (decide (i22 < (ln r9))))] ?_
  refine WA_seq ?_
  refine Ci h (fun h => ?_) fun h => ?_
  ·refine WA_skip ?_
   refine WA_seq ?_
   obtain ⟨J24, hJ24, h⟩ := jsome h
   refine WA_join (fun s => ∃ (i23 : Int), J24 i23 = some r ∧ s = ⟨[(13, bx 13 0), (14, po s_string r4), (15, vs 49 0 s_string (r6 ++ r4)), (16, vs 51 0 s_Stmt r8), (17, .ps .fopt (s_int.F r9)), (18, vi i10), (20, vb b13), (25, vi i23), (55, vs 51 0 s_Stmt r8), (56, vi (ln r8)), (57, vi i10), (83, .ps .fopt (s_int.F r9)), (84, vi (ln r9)), (85, vi i22)], [(13, cb 0 26 2 (eProg r2)), (49, rb 0 s_string (r6 ++ r4)), (51, rb 0 s_Stmt r8)], 1⟩) ?_ ?_
   ·refine WA_block ?_
    refine Qgd hT 0 [13, 14, 15, 16, 17, 18, 20, 25, 55, 56, 57, 83, 84, 85] [] ?_
    obtain ⟨x25, hx25, h⟩ := bsome h
    refine One' hT rfl (v_index s_int .fopt r9 .i64 i22 hx25) ?_
    refine Szd hT 2 [13, 14, 15, 16, 17, 18, 20, 25, 27, 55, 56, 57, 83, 84, 85] [(27, vi x25)] ?_
    refine WA_seq ?_
    refine WA_seq ?_
    obtain ⟨J27, hJ27, h⟩ := jsome h
    refine WA_join (fun s => ∃ (b26 : Bool), J27 b26 = some r ∧ s = ⟨[(13, bx 13 0), (14, po s_string r4), (15, vs 49 0 s_string (r6 ++ r4)), (16, vs 51 0 s_Stmt r8), (17, .ps .fopt (s_int.F r9)), (18, vi i10), (20, vb b13), (25, vi i21), (27, vi x25), (55, vs 51 0 s_Stmt r8), (56, vi (ln r8)), (57, vi i10), (83, .ps .fopt (s_int.F r9)), (84, vi (ln r9)), (85, vi i22), (96, vb b26)], [(13, cb 0 26 2 (eProg r2)), (49, rb 0 s_string (r6 ++ r4)), (51, rb 0 s_Stmt r8)], 1⟩) ?_ ?_
    ·refine Rgd hT 3 [13, 14, 15, 16, 17, 18, 20, 25, 27, 55, 56, 57, 83, 84, 85, 91] [(91, vb (decide (x25 < 0)))] ?_
     cases hb : (decide (x25 < 0) : Bool)
     ·replace h := cfalse hb h
      refine Sgd hT 2 [13, 14, 15, 16, 17, 18, 20, 25, 27, 55, 56, 57, 83, 84, 85, 91, 92, 93] [(92, vi x25), (93, vs 51 0 s_Stmt r8)] ?_
      refine One' hT rfl (v_len_own s_Stmt 51 0 true (rb 0 s_Stmt r8) r8) ?_
      refine Sgd hT 2 [13, 14, 15, 16, 17, 18, 20, 25, 27, 55, 56, 57, 83, 84, 85, 96] [(96, vb (decide (x25 ≥ (ln r8))))] ?_
      exact oK [13, 14, 15, 16, 17, 18, 20, 25, 27, 55, 56, 57, 83, 84, 85, 96] [(13, 13, 0), (49, 49, 0), (51, 51, 0)] ⟨decide (x25 ≥ (ln r8)), h, rfl⟩
     replace h := ctrue hb h
     refine Sgd hT 5 [13, 14, 15, 16, 17, 18, 20, 25, 27, 55, 56, 57, 83, 84, 85, 96] [(96, vb true)] ?_
     exact oK [13, 14, 15, 16, 17, 18, 20, 25, 27, 55, 56, 57, 83, 84, 85, 96] [(13, 13, 0), (49, 49, 0), (51, 51, 0)] ⟨true, h, rfl⟩
    subst hJ27
    rintro s ⟨b26, h, rfl⟩
    skip
    refine Ci h (fun h => ?_) fun h => ?_
    ·refine Qzd hT 1 [12] [(12, vb false)] ?_
     obtain rfl := Option.some.inj h
     exact rK [12] [] ⟨[(12, vb false)], [], 1⟩ ⟨by kernel_rfl, rfl⟩
    refine WA_skip ?_
    refine WA_seq ?_
    obtain ⟨J29, hJ29, h⟩ := jsome h
    refine WA_join (fun s => ∃ (b28 : Bool), J29 b28 = some r ∧ s = ⟨[(13, bx 13 0), (14, po s_string r4), (15, vs 49 0 s_string (r6 ++ r4)), (16, vs 51 0 s_Stmt r8), (17, .ps .fopt (s_int.F r9)), (18, vi i10), (20, vb b13), (25, vi i21), (55, vs 51 0 s_Stmt r8), (56, vi (ln r8)), (57, vi i10), (83, .ps .fopt (s_int.F r9)), (84, vi (ln r9)), (85, vi i22), (115, vb b28)], [(13, cb 0 26 2 (eProg r2)), (49, rb 0 s_string (r6 ++ r4)), (51, rb 0 s_Stmt r8)], 1⟩) ?_ ?_
    ·refine Rgd hT 4 [13, 14, 15, 16, 17, 18, 20, 25, 27, 55, 56, 57, 83, 84, 85, 100] [(100, vb (i10 == x25))] ?_
     cases hb : ((i10 == x25) : Bool)
     ·replace h := cfalse hb h
      refine Sg hT 4 [13, 14, 15, 16, 17, 18, 20, 25, 27, 55, 56, 57, 83, 84, 85, 100, 104] ⟨[(13, bx 13 0), (14, po s_string r4), (15, vs 49 0 s_string (r6 ++ r4)), (16, vs 51 0 s_Stmt r8), (17, .ps .fopt (s_int.F r9)), (18, vi i10), (20, vb b13), (25, vi i21), (27, vi x25), (55, vs 51 0 s_Stmt r8), (56, vi (ln r8)), (57, vi i10), (83, .ps .fopt (s_int.F r9)), (84, vi (ln r9)), (85, vi i22), (100, vb false), (104, vb (decide (i10 > x25)))], [(13, cb 0 26 2 (eProg r2)), (49, rb 0 s_string (r6 ++ r4)), (51, rb 0 s_Stmt r8)], 1⟩ ?_
      cases hb : (decide (i10 > x25) : Bool)
      ·replace h := cfalse hb h
       refine Sgd hT 11 [13, 14, 15, 16, 17, 18, 20, 25, 55, 56, 57, 83, 84, 85, 115] [(115, vb false)] ?_
       exact oK [13, 14, 15, 16, 17, 18, 20, 25, 55, 56, 57, 83, 84, 85, 115] [(13, 13, 0), (49, 49, 0), (51, 51, 0)] ⟨false, h, rfl⟩
      replace h := ctrue hb h
      refine Sgd hT 4 [13, 14, 15, 16, 17, 18, 20, 25, 55, 56, 57, 83, 84, 85, 100, 104, 105, 106, 107, 108] [(105, vi i10), (106, vi x25), (107, vs 51 0 s_Stmt r8), (108, vi x25)] ?_
      obtain ⟨x30, hx30, h⟩ := bsome h
      refine One' hT rfl (v_index_own s_Stmt 51 0 true (rb 0 s_Stmt r8) r8 .i64 x25 hx30) ?_
      refine Sgd hT 0 [13, 14, 15, 16, 17, 18, 20, 25, 55, 56, 57, 83, 84, 85, 100, 104, 105, 106, 109] [(109, .box 51 0 x25.toNat 0)] ?_
      refine One' hT rfl (v_load_row s_Stmt 51 0 (rb 0 s_Stmt r8) r8 x25.toNat 0 x30 (eStmt x30) (idx_some hx30).2) ?_
      refine Sgd hT 0 [13, 14, 15, 16, 17, 18, 20, 25, 55, 56, 57, 83, 84, 85, 100, 104, 105, 106, 110] [(110, eStmt x30)] ?_
      obtain ⟨r31, hr31, h⟩ := bsome h
      refine Pt' en48 (law22_within_ok hr31) ?_
      refine Sgd hT 4 [13, 14, 15, 16, 17, 18, 20, 25, 55, 56, 57, 83, 84, 85, 115] [(115, vb (decide (i10 ≤ (wr (x25 + r31)))))] ?_
      exact oK [13, 14, 15, 16, 17, 18, 20, 25, 55, 56, 57, 83, 84, 85, 115] [(13, 13, 0), (49, 49, 0), (51, 51, 0)] ⟨decide (i10 ≤ (wr (x25 + r31))), h, rfl⟩
     replace h := ctrue hb h
     refine Sgd hT 15 [13, 14, 15, 16, 17, 18, 20, 25, 55, 56, 57, 83, 84, 85, 115] [(115, vb true)] ?_
     exact oK [13, 14, 15, 16, 17, 18, 20, 25, 55, 56, 57, 83, 84, 85, 115] [(13, 13, 0), (49, 49, 0), (51, 51, 0)] ⟨true, h, rfl⟩
    subst hJ29
    rintro s ⟨b28, h, rfl⟩
    skip
    refine Ci h (fun h => ?_) fun h => ?_
    ·refine Rgd hT 3 [13, 14, 15, 16, 17, 18, 20, 25, 55, 56, 57, 83, 84, 85] [(25, vi (wr (i21 + 1)))] ?_
     exact oK [13, 14, 15, 16, 17, 18, 20, 25, 55, 56, 57, 83, 84, 85] [(13, 13, 0), (49, 49, 0), (51, 51, 0)] ⟨wr (i21 + 1), h, rfl⟩
    exact sK [13, 14, 15, 16, 17, 18, 20, 25, 55, 56, 57, 83, 84, 85] [(13, 13, 0), (49, 49, 0), (51, 51, 0)] ⟨i21, h, rfl⟩
   subst hJ24
   rintro s ⟨i23, h, rfl⟩
   skip
   refine Rgd hT 2 [13, 14, 15, 16, 17, 18, 20, 25, 55, 56, 57, 83, 84, 85] [(85, vi (wr (i22 + 1)))] ?_
   exact oK [13, 14, 15, 16, 17, 18, 20, 25, 55, 56, 57, 83, 84, 85] [(13, 13, 0), (49, 49, 0), (51, 51, 0)] ⟨_, by omega, by omega, i23, wr (i22 + 1), h, rfl⟩
  refine WA_exit ?_
  refine WA_seq ?_
  obtain ⟨J33, hJ33, h⟩ := jsome h
  refine WA_join (fun s => ∃ (b32 : Bool), J33 b32 = some r ∧ s = ⟨[(13, bx 13 0), (14, po s_string r4), (15, vs 49 0 s_string (r6 ++ r4)), (16, vs 51 0 s_Stmt r8), (17, .ps .fopt (s_int.F r9)), (55, vs 51 0 s_Stmt r8), (56, vi (ln r8)), (57, vi i10), (127, vb b32)], [(13, cb 0 26 2 (eProg r2)), (49, rb 0 s_string (r6 ++ r4)), (51, rb 0 s_Stmt r8)], 1⟩) ?_ ?_
  ·refine Rgd hT 2 [13, 14, 15, 16, 17, 25, 55, 56, 57, 120] [(120, vb b13)] ?_
   cases hb : (b13 : Bool)
   ·replace h := cfalse hb h
    refine Sgd hT 7 [13, 14, 15, 16, 17, 55, 56, 57, 127] [(127, vb (decide (i21 > 1)))] ?_
    exact oK [13, 14, 15, 16, 17, 55, 56, 57, 127] [(13, 13, 0), (49, 49, 0), (51, 51, 0)] ⟨decide (i21 > 1), h, rfl⟩
   replace h := ctrue hb h
   refine Sgd hT 4 [13, 14, 15, 16, 17, 25, 55, 56, 57, 124] [(124, vb (i21 != 1))] ?_
   cases hb : ((i21 != 1) : Bool)
   ·replace h := cfalse hb h
    refine Sgd hT 3 [13, 14, 15, 16, 17, 55, 56, 57, 127] [(127, vb (decide (i21 > 1)))] ?_
    exact oK [13, 14, 15, 16, 17, 55, 56, 57, 127] [(13, 13, 0), (49, 49, 0), (51, 51, 0)] ⟨decide (i21 > 1), h, rfl⟩
   replace h := ctrue hb h
   refine Sg hT 3 [13, 14, 15, 16, 17, 55, 56, 57, 127] ⟨[(13, bx 13 0), (14, po s_string r4), (15, vs 49 0 s_string (r6 ++ r4)), (16, vs 51 0 s_Stmt r8), (17, .ps .fopt (s_int.F r9)), (55, vs 51 0 s_Stmt r8), (56, vi (ln r8)), (57, vi i10), (127, vb true)], [(13, cb 0 26 2 (eProg r2)), (49, rb 0 s_string (r6 ++ r4)), (51, rb 0 s_Stmt r8)], 1⟩ ?_
   exact oK [13, 14, 15, 16, 17, 55, 56, 57, 127] [(13, 13, 0), (49, 49, 0), (51, 51, 0)] ⟨true, h, rfl⟩
  subst hJ33
  rintro s ⟨b32, h, rfl⟩
  skip
  refine Ci h (fun h => ?_) fun h => ?_
  ·refine Qzd hT 1 [12] [(12, vb false)] ?_
   obtain rfl := Option.some.inj h
   exact rK [12] [] ⟨[(12, vb false)], [], 1⟩ ⟨by kernel_rfl, rfl⟩
  refine WA_skip ?_
  refine Rgd hT 2 [13, 14, 15, 16, 17, 55, 56, 57] [(57, vi (wr (i10 + 1)))] ?_
  exact oK [13, 14, 15, 16, 17, 55, 56, 57] [(13, 13, 0), (49, 49, 0), (51, 51, 0)] ⟨_, by omega, by omega, wr (i10 + 1), h, rfl⟩
 refine WA_exit ?_
 refine Qgd hT 2 [13, 15, 16, 17, 129, 130] [(129, eProg r2), (130, po s_string r4)] ?_
 obtain ⟨r34, hr34, h⟩ := bsome h
 refine Pt' en49 (cost_Guard_ok hr34) ?_
 refine Szd hT 1 [13, 15, 16, 17, 28] [(28, vz r34)] ?_
 refine Qgd hT 2 [13, 15, 16, 17, 28, 132, 133] [(132, eProg r2), (133, vs 49 0 s_string (r6 ++ r4))] ?_
 refine WO_weak (wF 49 0 (rb 0 s_string (r6 ++ r4)) [(13, bx 13 0), (15, po s_string (r6 ++ r4)), (16, vs 51 0 s_Stmt r8), (17, .ps .fopt (s_int.F r9)), (28, vz r34), (132, eProg r2), (133, po s_string (r6 ++ r4))] [(13, cb 0 26 2 (eProg r2)), (51, rb 0 s_Stmt r8)] ⟨rfl, .keep _, rfl, .hit true, rfl, .keep _, rfl, .keep _, rfl, .keep _, rfl, .keep _, rfl, .hit true, trivial⟩ ⟨rfl, .inl rfl, rfl, .inl rfl, trivial⟩) ?_
 obtain ⟨r35, hr35, h⟩ := bsome h
 refine Pt' en49 (cost_Guard_ok hr35) ?_
 refine Szd hT 1 [13, 15, 16, 17, 28, 29] [(29, vz r35)] ?_
 refine Qgd hT 2 [16, 17, 28, 29, 135, 136] [(135, eProg r2), (136, po s_string (r6 ++ r4))] ?_
 obtain ⟨r36, hr36, h⟩ := bsome h
 refine Pt' en46 (cost_Wrapped_ok hr36) ?_
 refine Szd hT 1 [16, 17, 28, 29, 30] [(30, .ps .fopt (s_int.F r36))] ?_
 refine WA_seq ?_
 refine Qg hT 1 [16, 28, 29, 30, 138] ⟨[(16, vs 51 0 s_Stmt r8), (28, vz r34), (29, vz r35), (30, .ps .fopt (s_int.F r36)), (138, .ps .fopt (s_int.F r9))], [(13, cb 0 26 2 (eProg r2)), (51, rb 0 s_Stmt r8)], 1⟩ ?_
 refine One' hT rfl (v_len s_int .fopt r9) ?_
 refine Szd hT 1 [16, 28, 29, 30, 138, 139, 140] [(139, vi (ln r9)), (140, vi 0)] ?_
 refine WA_block ?_
 refine lK [16, 28, 29, 30, 138, 139, 140] [(51, 51, 0)] (fun k s => ∃ q, q ≤ k ∧ q ≤ q1 ∧ ∃ (i37 : Int), law22_CostHolds_L4 q a0 a1 a2 a3 a4 a5 r1 r2 r3 r4 r5 r6 r8 r9 i10 r34 r35 r36 i37 = some r ∧ s = ⟨[(16, vs 51 0 s_Stmt r8), (28, vz r34), (29, vz r35), (30, .ps .fopt (s_int.F r36)), (138, .ps .fopt (s_int.F r9)), (139, vi (ln r9)), (140, vi i37)], [(51, rb 0 s_Stmt r8)], 1⟩) q1 ⟨q1, Nat.le_refl _, Nat.le_refl _, 0, h, rfl⟩ (by rintro s ⟨q, hq, _, i37, h, _⟩; obtain rfl := Nat.le_zero.1 hq; rw [law22_CostHolds_L4] at h; cases h) ?_
 clear h
 rintro k2 s ⟨q2, hk2, hn2, i37, h, rfl⟩
 rcases q2 with _ | q2
 ·rw [law22_CostHolds_L4] at h; cases h
 rw [law22_CostHolds_L4] at h
 refine Qz hT 1 [16, 28, 29, 30, 138, 139, 140, 141] ⟨[(16, vs 51 0 s_Stmt r8), (28, vz r34), (29, vz r35), (30, .ps .fopt (s_int.F r36)), (138, .ps .fopt (s_int.F r9)), (139, vi (ln r9)), (140, vi i37), (141, vb (decide (i37 < (ln r9))))], [(51, rb 0 s_Stmt r8)], 1⟩ ?_
 refine WA_seq ?_
 refine Ci h (fun h => ?_) fun h => ?_
 ·refine WA_skip ?_
  refine WA_seq ?_
  refine WA_block ?_
  refine Qgd hT 0 [16, 28, 29, 30, 138, 139, 140] [] ?_
  obtain ⟨x38, hx38, h⟩ := bsome h
  refine One' hT rfl (v_index s_int .fopt r9 .i64 i37 hx38) ?_
  refine Szd hT 2 [16, 28, 29, 30, 32, 138, 139, 140] [(32, vi x38)] ?_
  refine Qzd hT 1 [16, 28, 29, 30, 32, 33, 138, 139, 140] [(33, vb false)] ?_
  refine WA_seq ?_
  refine Qgd hT 1 [16, 28, 29, 30, 32, 33, 138, 139, 140, 144] [(144, .ps .fopt (s_int.F r36))] ?_
  refine One' hT rfl (v_len s_int .fopt r36) ?_
  refine Szd hT 1 [16, 28, 29, 30, 32, 33, 138, 139, 140, 144, 145, 146] [(145, vi (ln r36)), (146, vi 0)] ?_
  refine WA_block ?_
  refine lK [16, 28, 29, 30, 32, 33, 138, 139, 140, 144, 145, 146] [(51, 51, 0)] (fun k s => ∃ q, q ≤ k ∧ q ≤ q2 ∧ ∃ (b39 : Bool), ∃ (i40 : Int), law22_CostHolds_L5 q a0 a1 a2 a3 a4 a5 r1 r2 r3 r4 r5 r6 r8 r9 i10 r34 r35 r36 i37 x38 b39 i40 = some r ∧ s = ⟨[(16, vs 51 0 s_Stmt r8), (28, vz r34), (29, vz r35), (30, .ps .fopt (s_int.F r36)), (32, vi x38), (33, vb b39), (138, .ps .fopt (s_int.F r9)), (139, vi (ln r9)), (140, vi i37), (144, .ps .fopt (s_int.F r36)), (145, vi (ln r36)), (146, vi i40)], [(51, rb 0 s_Stmt r8)], 1⟩) q2 ⟨q2, Nat.le_refl _, Nat.le_refl _, false, 0, h, rfl⟩ (by rintro s ⟨q, hq, _, b39, i40, h, _⟩; obtain rfl := Nat.le_zero.1 hq; rw [law22_CostHolds_L5] at h; cases h) ?_
  clear h
  rintro k3 s ⟨q3, hk3, hn3, b39, i40, h, rfl⟩
  rcases q3 with _ | q3
  ·rw [law22_CostHolds_L5] at h; cases h
  rw [law22_CostHolds_L5] at h
  refine Qzd hT 1 [16, 28, 29, 30, 32, 33, 138, 139, 140, 144, 145, 146, 147] [(147, vb (decide (i40 < (ln r36))))] ?_
  refine WA_seq ?_
  refine Ci h (fun h => ?_) fun h => ?_
  ·refine WA_skip ?_
   refine WA_seq ?_
   obtain ⟨J42, hJ42, h⟩ := jsome h
   refine WA_join (fun s => ∃ (b41 : Bool), J42 b41 = some r ∧ s = ⟨[(16, vs 51 0 s_Stmt r8), (28, vz r34), (29, vz r35), (30, .ps .fopt (s_int.F r36)), (32, vi x38), (33, vb b41), (138, .ps .fopt (s_int.F r9)), (139, vi (ln r9)), (140, vi i37), (144, .ps .fopt (s_int.F r36)), (145, vi (ln r36)), (146, vi i40)], [(51, rb 0 s_Stmt r8)], 1⟩) ?_ ?_
   ·refine WA_block ?_
    refine Qgd hT 0 [16, 28, 29, 30, 32, 33, 138, 139, 140, 144, 145, 146] [] ?_
    obtain ⟨x43, hx43, h⟩ := bsome h
    refine One' hT rfl (v_index s_int .fopt r36 .i64 i40 hx43) ?_
    refine Szd hT 2 [16, 28, 29, 30, 32, 33, 35, 138, 139, 140, 144, 145, 146] [(35, vi x43)] ?_
    refine WA_seq ?_
    refine WA_seq ?_
    obtain ⟨J45, hJ45, h⟩ := jsome h
    refine WA_join (fun s => ∃ (b44 : Bool), J45 b44 = some r ∧ s = ⟨[(16, vs 51 0 s_Stmt r8), (28, vz r34), (29, vz r35), (30, .ps .fopt (s_int.F r36)), (32, vi x38), (33, vb b39), (35, vi x43), (138, .ps .fopt (s_int.F r9)), (139, vi (ln r9)), (140, vi i37), (144, .ps .fopt (s_int.F r36)), (145, vi (ln r36)), (146, vi i40), (157, vb b44)], [(51, rb 0 s_Stmt r8)], 1⟩) ?_ ?_
    ·refine Rg hT 3 [16, 28, 29, 30, 32, 33, 35, 138, 139, 140, 144, 145, 146, 152] ⟨[(16, vs 51 0 s_Stmt r8), (28, vz r34), (29, vz r35), (30, .ps .fopt (s_int.F r36)), (32, vi x38), (33, vb b39), (35, vi x43), (138, .ps .fopt (s_int.F r9)), (139, vi (ln r9)), (140, vi i37), (144, .ps .fopt (s_int.F r36)), (145, vi (ln r36)), (146, vi i40), (152, vb (decide (x43 < 0)))], [(51, rb 0 s_Stmt r8)], 1⟩ ?_
     cases hb : (decide (x43 < 0) : Bool)
     ·replace h := cfalse hb h
      refine Sgd hT 2 [16, 28, 29, 30, 32, 33, 35, 138, 139, 140, 144, 145, 146, 152, 153, 154] [(153, vi x43), (154, vs 51 0 s_Stmt r8)] ?_
      refine One' hT rfl (v_len_own s_Stmt 51 0 true (rb 0 s_Stmt r8) r8) ?_
      refine Sgd hT 2 [16, 28, 29, 30, 32, 33, 35, 138, 139, 140, 144, 145, 146, 157] [(157, vb (decide (x43 ≥ (ln r8))))] ?_
      exact oK [16, 28, 29, 30, 32, 33, 35, 138, 139, 140, 144, 145, 146, 157] [(51, 51, 0)] ⟨decide (x43 ≥ (ln r8)), h, rfl⟩
     replace h := ctrue hb h
     refine Sgd hT 5 [16, 28, 29, 30, 32, 33, 35, 138, 139, 140, 144, 145, 146, 157] [(157, vb true)] ?_
     exact oK [16, 28, 29, 30, 32, 33, 35, 138, 139, 140, 144, 145, 146, 157] [(51, 51, 0)] ⟨true, h, rfl⟩
    subst hJ45
    rintro s ⟨b44, h, rfl⟩
    skip
    refine Ci h (fun h => ?_) fun h => ?_
    ·refine Qzd hT 1 [12] [(12, vb false)] ?_
     obtain rfl := Option.some.inj h
     exact rK [12] [] ⟨[(12, vb false)], [], 1⟩ ⟨by kernel_rfl, rfl⟩
    refine WA_skip ?_
    refine Rgd hT 2 [16, 28, 29, 30, 32, 35, 138, 139, 140, 144, 145, 146, 159] [(159, vb b39)] ?_
    cases hb : (b39 : Bool)
    ·replace h := cfalse hb h
     refine Sgd hT 4 [16, 28, 29, 30, 32, 35, 138, 139, 140, 144, 145, 146, 159, 163] [(163, vb (decide (x38 ≥ x43)))] ?_
     cases hb : (decide (x38 ≥ x43) : Bool)
     ·replace h := cfalse hb h
      refine Sgd hT 12 [16, 28, 29, 30, 32, 33, 138, 139, 140, 144, 145, 146] [(33, vb false)] ?_
      exact oK [16, 28, 29, 30, 32, 33, 138, 139, 140, 144, 145, 146] [(51, 51, 0)] ⟨false, h, rfl⟩
     replace h := ctrue hb h
     refine Sgd hT 4 [16, 28, 29, 30, 32, 138, 139, 140, 144, 145, 146, 159, 163, 164, 165, 166, 167] [(164, vi x38), (165, vi x43), (166, vs 51 0 s_Stmt r8), (167, vi x43)] ?_
     obtain ⟨x46, hx46, h⟩ := bsome h
     refine One' hT rfl (v_index_own s_Stmt 51 0 true (rb 0 s_Stmt r8) r8 .i64 x43 hx46) ?_
     refine Sg hT 0 [16, 28, 29, 30, 32, 138, 139, 140, 144, 145, 146, 159, 163, 164, 165, 168] ⟨[(16, vs 51 0 s_Stmt r8), (28, vz r34), (29, vz r35), (30, .ps .fopt (s_int.F r36)), (32, vi x38), (138, .ps .fopt (s_int.F r9)), (139, vi (ln r9)), (140, vi i37), (144, .ps .fopt (s_int.F r36)), (145, vi (ln r36)), (146, vi i40), (159, vb false), (163, vb true), (164, vi x38), (165, vi x43), (168, .box 51 0 x43.toNat 0)], [(51, rb 0 s_Stmt r8)], 1⟩ ?_
     refine One' hT rfl (v_load_row s_Stmt 51 0 (rb 0 s_Stmt r8) r8 x43.toNat 0 x46 (eStmt x46) (idx_some hx46).2) ?_
     refine Sgd hT 0 [16, 28, 29, 30, 32, 138, 139, 140, 144, 145, 146, 159, 163, 164, 165, 169] [(169, eStmt x46)] ?_
     obtain ⟨r47, hr47, h⟩ := bsome h
     refine Pt' en48 (law22_within_ok hr47) ?_
     refine Sgd hT 5 [16, 28, 29, 30, 32, 33, 138, 139, 140, 144, 145, 146] [(33, vb (decide (x38 ≤ (wr (x43 + r47)))))] ?_
     exact oK [16, 28, 29, 30, 32, 33, 138, 139, 140, 144, 145, 146] [(51, 51, 0)] ⟨decide (x38 ≤ (wr (x43 + r47))), h, rfl⟩
    replace h := ctrue hb h
    refine Sgd hT 16 [16, 28, 29, 30, 32, 33, 138, 139, 140, 144, 145, 146] [(33, vb true)] ?_
    exact oK [16, 28, 29, 30, 32, 33, 138, 139, 140, 144, 145, 146] [(51, 51, 0)] ⟨true, h, rfl⟩
   subst hJ42
   rintro s ⟨b41, h, rfl⟩
   skip
   refine Rgd hT 2 [16, 28, 29, 30, 32, 33, 138, 139, 140, 144, 145, 146] [(146, vi (wr (i40 + 1)))] ?_
   exact oK [16, 28, 29, 30, 32, 33, 138, 139, 140, 144, 145, 146] [(51, 51, 0)] ⟨_, by omega, by omega, b41, wr (i40 + 1), h, rfl⟩
  refine WA_exit ?_
  refine Qzd hT 2 [16, 28, 29, 30, 138, 139, 140, 177] [(177, vb (!b39))] ?_
  refine Ci h (fun h => ?_) fun h => ?_
  ·refine Qzd hT 1 [12] [(12, vb false)] ?_
   obtain rfl := Option.some.inj h
   exact rK [12] [] ⟨[(12, vb false)], [], 1⟩ ⟨by kernel_rfl, rfl⟩
  refine WA_skip ?_
  refine Rgd hT 2 [16, 28, 29, 30, 138, 139, 140] [(140, vi (wr (i37 + 1)))] ?_
  exact oK [16, 28, 29, 30, 138, 139, 140] [(51, 51, 0)] ⟨_, by omega, by omega, wr (i37 + 1), h, rfl⟩
 refine WA_exit ?_
 refine WA_seq ?_
 obtain ⟨J49, hJ49, h⟩ := jsome h
 refine WA_join (fun s => ∃ (b48 : Bool), J49 b48 = some r ∧ s = ⟨[(12, vb b48)], [], 1⟩) ?_ ?_
 ·refine Rgd hT 0 [28, 29] [] ?_
  obtain ⟨r50, hr50, h⟩ := bsome h
  refine Pt' en50 (law22_known_ok hr50) ?_
  refine Sgd hT 1 [28, 29, 180] [(180, vb r50)] ?_
  cases hb : (r50 : Bool)
  ·replace h := cfalse hb h
   refine Sgd hT 29 [12] [(12, vb false)] ?_
   exact oK [12] [] ⟨false, h, rfl⟩
  replace h := ctrue hb h
  refine Sgd hT 5 [28, 29, 185] [(185, vb (FloatKind.f64.format.order r34.im 4607182418800017408 == some .eq))] ?_
  cases hb : ((FloatKind.f64.format.order r34.im 4607182418800017408 == some .eq) : Bool)
  ·replace h := cfalse hb h
   refine Sgd hT 24 [12] [(12, vb false)] ?_
   exact oK [12] [] ⟨false, h, rfl⟩
  replace h := ctrue hb h
  refine Sgd hT 5 [28, 29, 190] [(190, vb (FloatKind.f64.format.order r35.im 4607182418800017408 == some .eq))] ?_
  cases hb : ((FloatKind.f64.format.order r35.im 4607182418800017408 == some .eq) : Bool)
  ·replace h := cfalse hb h
   refine Sg hT 19 [12] ⟨[(12, vb false)], [(51, rb 0 s_Stmt r8)], 1⟩ ?_
   exact oK [12] [] ⟨false, h, rfl⟩
  replace h := ctrue hb h
  refine Sgd hT 5 [28, 29, 195] [(195, vb (FloatKind.f64.format.order r34.re 0 == some .gt || FloatKind.f64.format.order r34.re 0 == some .eq))] ?_
  cases hb : ((FloatKind.f64.format.order r34.re 0 == some .gt || FloatKind.f64.format.order r34.re 0 == some .eq) : Bool)
  ·replace h := cfalse hb h
   refine Sgd hT 14 [12] [(12, vb false)] ?_
   exact oK [12] [] ⟨false, h, rfl⟩
  replace h := ctrue hb h
  refine Sgd hT 5 [28, 200] [(200, vb (FloatKind.f64.format.order r35.re 0 == some .gt || FloatKind.f64.format.order r35.re 0 == some .eq))] ?_
  cases hb : ((FloatKind.f64.format.order r35.re 0 == some .gt || FloatKind.f64.format.order r35.re 0 == some .eq) : Bool)
  ·replace h := cfalse hb h
   refine Sgd hT 9 [12] [(12, vb false)] ?_
   exact oK [12] [] ⟨false, h, rfl⟩
  replace h := ctrue hb h
  refine Sgd hT 4 [200, 202, 204] [(202, .p (.float .f64 r34.re)), (204, .p (.float .f64 r34.re))] ?_
  obtain ⟨x51, hx51, h⟩ := bsome h
  refine One' hT rfl (ev_f2i r34.re hx51 (by kernel_rfl) (by kernel_rfl) (by kernel_rfl)) ?_
  refine Sgd hT 4 [12] [(12, vb (FloatKind.f64.format.order r34.re (FloatKind.f64.nearest x51) == some .eq))] ?_
  exact oK [12] [] ⟨(FloatKind.f64.format.order r34.re (FloatKind.f64.nearest x51) == some .eq), h, rfl⟩
 subst hJ49
 rintro s ⟨b48, h, rfl⟩
 obtain rfl := Option.some.inj h
 exact rK [12] [] ⟨[(12, vb b48)], [], 1⟩ ⟨by kernel_rfl, rfl⟩
end Go.Su.Ytfmgnboplbgniaa
