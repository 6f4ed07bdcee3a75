/-
  The functions of the program compute that.
-/
import Derived.Test.YtfmgnboplbgniaaZETPb
namespace Go.Su.Ytfmgnboplbgniaa
open Go.Mx Go.Proofs
set_option maxRecDepth 100000
set_option maxHeartbeats 20000000
set_option linter.unusedVariables false
set_option linter.unusedSimpArgs false
theorem tree_Copy_ok {n : Nat} {a0 : Prog} {r : Prog} (h : tree_Copy n a0 = some r) : GO Try.prog 81 [] [eProg a0] (.agg [.sl 100 1 0 (s_Decl.F r.Decls).length false, .sl 101 1 0 (s_LStmt.F r.Threads).length false]) [(100, rb 1 s_Decl r.Decls), (101, rb 1 s_LStmt r.Threads)] := by
 unfold tree_Copy at h
 refine GO_bodyA hT Try.func81 rfl [1000] (by kernel_rfl) fun bad w m => ?_
 refine Qz hT 2 [1, 2] ⟨[(1, bx 1 1), (2, bx 2 2)], [(2, cb 2 26 2 (.agg [vn, vn])), (1, cb 1 26 2 (eProg a0))], 3⟩ ?_
 refine Qgd hT 2 [1, 2, 7] [(7, po s_Decl a0.Decls)] ?_
 obtain ⟨r1, hr1, h⟩ := bsome h
 refine Og [] [(100, rb 1 s_Decl r1)] [po s_Decl a0.Decls] [po s_Decl a0.Decls] [] [(100, 8, 3)] [(8, rb 3 s_Decl r1)] (vs 100 1 s_Decl r1) (vs 8 3 s_Decl r1) 4 en123 (Clone_Decl_ok hr1) ?_
 refine Sgh hT 0 [1, 2, 8] [(8, vs 8 3 s_Decl r1)] [(8, rb 3 s_Decl r1), (2, cb 2 26 2 (.agg [vn, vn])), (1, cb 1 26 2 (eProg a0))] 4 ?_
 obtain ⟨r2, hr2, h⟩ := bsome h
 refine Og [(0, rb 0 s_Decl r1)] [(100, rb 1 s_Decl r2)] [vs 8 3 s_Decl r1] [vs 0 0 s_Decl r1] [(8, 0, 0)] [(100, 9, 4)] [(9, rb 4 s_Decl r2)] (.sl 100 1 0 (s_Decl.F r2).length false) (.sl 9 4 0 (s_Decl.F r2).length false) 5 en82 (Clip_Decl_o_ok hr2) ?_
 refine Szh hT 3 [1, 2, 3] [(3, bx 3 5)] [(3, cb 5 26 2 (.agg [.sl 9 4 0 (s_Decl.F r2).length false, vn])), (9, rb 4 s_Decl r2), (2, cb 2 26 2 (.agg [vn, vn])), (1, cb 1 26 2 (eProg a0))] 6 ?_
 refine WA_seq ?_
 refine Qgd hT 2 [2, 3, 12] [(12, po s_LStmt a0.Threads)] ?_
 refine One' hT rfl (v_len s_LStmt .opt a0.Threads) ?_
 refine Szd hT 1 [2, 3, 12, 13, 14] [(13, vi (ln a0.Threads)), (14, vi 0)] ?_
 refine WA_block ?_
 refine aW [2, 3, 12, 13, 14] ⟨[(2, bx 2 2), (3, bx 3 5), (12, po s_LStmt a0.Threads), (13, vi (ln a0.Threads)), (14, vi 0)], [(3, cb 5 26 2 (.agg [.sl 9 4 0 (s_Decl.F r2).length false, vn])), (9, rb 4 s_Decl r2), (2, cb 2 26 2 (.agg [vn, vn])), (1, cb 1 26 2 (eProg a0))], 6⟩ ?_
 refine WA_weak (wOh 3 5000 1 (cb 5 26 2 (.agg [.sl 9 4 0 (s_Decl.F r2).length false, vn])) (.agg [.sl 9 4 0 (s_Decl.F r2).length false, vn]) (.agg [.sl 9 4 0 (s_Decl.F r2).length false, vs 5000 6 s_LStmt ([] : List (List Stmt))]) 32 1) ?_
 refine lR [(2, 2, 1), (3, 3, 1), (9, 9, 1), (5000, 12503, 1)] (fun k s => ∃ q, q ≤ k ∧ q ≤ n ∧ ∃ (l3 : List (List Stmt)), ∃ (i4 : Int), tree_Copy_L0 q a0 r1 r2 l3 i4 = some r ∧ s = ⟨[(2, bx 2 1), (3, bx 3 1), (12, po s_LStmt a0.Threads), (13, vi (ln a0.Threads)), (14, vi i4)], [(2, cb 1 26 2 (.agg [vn, vn])), (3, cb 1 26 2 (.agg [.sl 9 1 0 (s_Decl.F r2).length false, vs 12503 1 s_LStmt l3])), (9, rb 1 s_Decl r2), (12503, rb 1 s_LStmt l3)], 2⟩) n ⟨n, Nat.le_refl _, Nat.le_refl _, ([] : List (List Stmt)), 0, h, rfl⟩ (by rintro s ⟨q, hq, _, l3, i4, h, _⟩; obtain rfl := Nat.le_zero.1 hq; rw [tree_Copy_L0] at h; cases h) ?_
 clear h
 rintro k1 s ⟨q1, hk1, hn1, l3, i4, h, rfl⟩
 rcases q1 with _ | q1
 ·rw [tree_Copy_L0] at h; cases h
 rw [tree_Copy_L0] at h
 refine Qzd hT 1 [2, 3, 12, 13, 14, 15] [(15, vb (decide (i4 < (ln a0.Threads))))] ?_
 refine WA_seq ?_
 refine Ci h (fun h => ?_) fun h => ?_
 ·refine WA_skip ?_
  refine WA_seq ?_
  refine WA_block ?_
  refine Qgd hT 0 [2, 3, 12, 13, 14] [] ?_
  obtain ⟨x5, hx5, h⟩ := bsome h
  refine One' hT rfl (v_index s_LStmt .opt a0.Threads .i64 i4 hx5) ?_
  refine Szd hT 2 [2, 3, 5, 12, 13, 14] [(5, po s_Stmt x5)] ?_
  refine WA_drawW hT hM (by kernel_rfl) ?_
  refine Ds 3 [(20, po s_Stmt x5), (19, vs 12503 1 s_LStmt l3), (18, .box 3 1 0 1)] [] [(0, [3]), (1, [3])] ?_
  obtain ⟨r6, hr6, h⟩ := bsome h
  refine Dp [po s_Stmt x5] (po s_Stmt r6) en124 (PT_of_GO (tree_copyBlock_ok hr6)) ?_
  refine Ds 1 [(22, .ps .full (s_LStmt.F [r6]))] [] [] ?_
  obtain ⟨g7, h⟩ := gsome h
  refine Dw rfl (ev_append s_LStmt 12503 1 true l3 [r6] (by kernel_rfl) (by kernel_rfl) (by kernel_rfl) (by simp) g7) ?_
  refine Dh 2 [(24, .box 3 1 0 1)] [(3, cb 1 26 2 (.agg [.sl 9 1 0 (s_Decl.F r2).length false, vs 23 2 s_LStmt (l3 ++ [r6])])), (23, ⟨2, 32, 1, false, false, s_LStmt.F (l3 ++ [r6])⟩), (2, cb 1 26 2 (.agg [vn, vn])), (9, rb 1 s_Decl r2)] 3 [(7, [3])] [(6, [3])] ?_
  refine De ?_
  refine Wk_done ?_
  refine Rgd hT 2 [2, 3, 12, 13, 14] [(14, vi (wr (i4 + 1)))] ?_
  refine oW [2, 3, 12, 13, 14] ⟨[(2, bx 2 1), (3, bx 3 1), (12, po s_LStmt a0.Threads), (13, vi (ln a0.Threads)), (14, vi (wr (i4 + 1)))], [(3, cb 1 26 2 (.agg [.sl 9 1 0 (s_Decl.F r2).length false, vs 23 2 s_LStmt (l3 ++ [r6])])), (23, ⟨2, 32, 1, false, false, s_LStmt.F (l3 ++ [r6])⟩), (2, cb 1 26 2 (.agg [vn, vn])), (9, rb 1 s_Decl r2)], 3⟩ ?_
  refine WO_weak (wL [(2, bx 2 1), (3, bx 3 1), (12, po s_LStmt a0.Threads), (13, vi (ln a0.Threads)), (14, vi (wr (i4 + 1)))] [(3, cb 1 26 2 (.agg [.sl 9 1 0 (s_Decl.F r2).length false, vs 23 2 s_LStmt (l3 ++ [r6])])), (23, rb 2 s_LStmt (l3 ++ [r6])), (2, cb 1 26 2 (.agg [vn, vn])), (9, rb 1 s_Decl r2)] ⟨VLf.refl _, VLf.refl _, VLf.refl _, VLf.refl _, VLf.refl _, trivial⟩ ⟨rfl, .inl rfl, rfl, .inr (.inr rfl), rfl, .inl rfl, rfl, .inl rfl, trivial⟩) ?_
  exact oR [(2, 2, 1), (3, 3, 1), (9, 9, 1), (23, 12503, 1)] ⟨_, by omega, by omega, l3 ++ [r6], wr (i4 + 1), h, rfl⟩
 refine WA_exit ?_
 refine Qg hT 2 [2, 3, 27] ⟨[(2, bx 2 1), (3, bx 3 1), (27, vs 12503 1 s_LStmt l3)], [(2, cb 1 26 2 (.agg [vn, vn])), (3, cb 1 26 2 (.agg [.sl 9 1 0 (s_Decl.F r2).length false, vs 12503 1 s_LStmt l3])), (9, rb 1 s_Decl r2), (12503, rb 1 s_LStmt l3)], 2⟩ ?_
 obtain ⟨r8, hr8, h⟩ := bsome h
 refine Og [(0, rb 0 s_LStmt l3)] [(100, rb 1 s_LStmt r8)] [vs 12503 1 s_LStmt l3] [vs 0 0 s_LStmt l3] [(12503, 0, 0)] [(100, 28, 2)] [(28, rb 2 s_LStmt r8)] (.sl 100 1 0 (s_LStmt.F r8).length false) (.sl 28 2 0 (s_LStmt.F r8).length false) 3 en125 (Clip_LStmt_o_ok hr8) ?_
 refine Szh hT 2 [2, 3] [] [(3, cb 1 26 2 (.agg [.sl 9 1 0 (s_Decl.F r2).length false, .sl 28 2 0 (s_LStmt.F r8).length false])), (28, rb 2 s_LStmt r8), (2, cb 1 26 2 (.agg [vn, vn])), (9, rb 1 s_Decl r2)] 3 ?_
 refine Qz hT 2 [2] ⟨[(2, bx 2 1)], [(2, cb 1 26 2 (.agg [.sl 9 1 0 (s_Decl.F r2).length false, .sl 28 2 0 (s_LStmt.F r8).length false])), (3, cb 1 26 2 (.agg [.sl 9 1 0 (s_Decl.F r2).length false, .sl 28 2 0 (s_LStmt.F r8).length false])), (28, rb 2 s_LStmt r8), (9, rb 1 s_Decl r2)], 3⟩ ?_
 obtain rfl := Option.some.inj h
 exact rK [2] [(9, 100, 1), (28, 101, 1), (2, 1000, 1)] ⟨[(2, bx 1000 1)], [(100, rb 1 s_Decl r2), (101, rb 1 s_LStmt r8), (1000, cb 1 26 2 (.agg [.sl 100 1 0 (s_Decl.F r2).length false, .sl 101 1 0 (s_LStmt.F r8).length false]))], 2⟩ ⟨by kernel_rfl, by kernel_rfl, rfl⟩
theorem Index_string_ok {n : Nat} {a0 : List ByteArray} {a1 : ByteArray} {r : Int} (h : Index_string n a0 a1 = some r) : PT Try.prog 126 [po s_string a0, vw a1] (vi r) := by
 unfold Index_string at h
 refine PT_bodyA hT Try.func126 rfl (by kernel_rfl) fun bad w => ?_
 refine Qzd hT 1 [0, 1] [] ?_
 refine WA_seq ?_
 refine Qgd hT 1 [0, 1, 6] [(6, po s_string a0)] ?_
 refine One' hT rfl (v_len s_string .opt a0) ?_
 refine Szd hT 1 [0, 1, 7, 8] [(7, vi (ln a0)), (8, vi 0)] ?_
 refine WA_block ?_
 refine lK [0, 1, 7, 8] [] (fun k s => ∃ q, q ≤ k ∧ q ≤ n ∧ ∃ (i1 : Int), Index_string_L0 q a0 a1 i1 = some r ∧ s = ⟨[(0, po s_string a0), (1, vw a1), (7, vi (ln a0)), (8, vi i1)], [], 1⟩) n ⟨n, Nat.le_refl _, Nat.le_refl _, 0, h, rfl⟩ (by rintro s ⟨q, hq, _, i1, h, _⟩; obtain rfl := Nat.le_zero.1 hq; rw [Index_string_L0] at h; cases h) ?_
 clear h
 rintro k1 s ⟨q1, hk1, hn1, i1, h, rfl⟩
 rcases q1 with _ | q1
 ·rw [Index_string_L0] at h; cases h
 rw [Index_string_L0] at h
 refine Qzd hT 1 [0, 1, 7, 8, 9] [(9, vb (decide (i1 < (ln a0))))] ?_
 refine WA_seq ?_
 refine Ci h (fun h => ?_) fun h => ?_
 ·refine WA_skip ?_
  refine WA_seq ?_
  refine WA_block ?_
  refine Qzd hT 2 [0, 1, 5, 7, 8] [(5, vi i1)] ?_
  refine Qgd hT 3 [0, 1, 5, 7, 8, 11, 12, 13] [(11, vw a1), (12, po s_string a0), (13, vi i1)] ?_
  obtain ⟨x2, hx2, h⟩ := bsome h
  refine One' hT rfl (v_index s_string .opt a0 .i64 i1 hx2) ?_
  refine Szd hT 2 [0, 1, 5, 7, 8, 16] [(16, vb (bytesEq a1 x2))] ?_
  refine Ci h (fun h => ?_) fun h => ?_
  ·refine Qz hT 2 [4] ⟨[(4, vi i1)], [], 1⟩ ?_
   obtain rfl := Option.some.inj h
   exact rK [4] [] ⟨[(4, vi i1)], [], 1⟩ ⟨by kernel_rfl, rfl⟩
  refine WA_skip ?_
  refine Rgd hT 2 [0, 1, 7, 8] [(8, vi (wr (i1 + 1)))] ?_
  exact oK [0, 1, 7, 8] [] ⟨_, by omega, by omega, wr (i1 + 1), h, rfl⟩
 refine WA_exit ?_
 refine Qz hT 1 [4] ⟨[(4, vi (-1))], [], 1⟩ ?_
 obtain rfl := Option.some.inj h
 exact rK [4] [] ⟨[(4, vi (-1))], [], 1⟩ ⟨by kernel_rfl, rfl⟩
theorem Contains_string_ok {n : Nat} {a0 : List ByteArray} {a1 : ByteArray} {r : Bool} (h : Contains_string n a0 a1 = some r) : PT Try.prog 85 [po s_string a0, vw a1] (vb r) := by
 unfold Contains_string at h
 refine PT_bodyA hT Try.func85 rfl (by kernel_rfl) fun bad w => ?_
 refine Qzd hT 1 [0, 1] [] ?_
 refine Qg hT 2 [5, 6] ⟨[(5, po s_string a0), (6, vw a1)], [], 0⟩ ?_
 obtain ⟨r1, hr1, h⟩ := bsome h
 refine Pt' en126 (Index_string_ok hr1) ?_
 refine Sz hT 2 [4] ⟨[(4, vb (decide (r1 ≥ 0)))], [], 0⟩ ?_
 obtain rfl := Option.some.inj h
 exact rK [4] [] ⟨[(4, vb (decide (r1 ≥ 0)))], [], 1⟩ ⟨by kernel_rfl, rfl⟩
theorem erase_Of_1_ok {n : Nat} {a0 : Decl} {a1 : List ByteArray} {r : Bool} (h : erase_Of_1 n a0 a1 = some r) : PT Try.prog 84 [eDecl a0, .ref (el_string a1) 0] (vb r) := by
 unfold erase_Of_1 at h
 refine PT_bodyA hT Try.func84 rfl (by kernel_rfl) fun bad w => ?_
 refine Qzh hT 2 [1, 2] [(2, bx 2 0)] [(2, cb 0 58 4 (eDecl a0))] 1 ?_
 refine WA_seq ?_
 obtain ⟨J2, hJ2, h⟩ := jsome h
 refine WA_join (fun s => ∃ (b1 : Bool), J2 b1 = some r ∧ s = ⟨[(3, vb b1)], [], 1⟩) ?_ ?_
 ·refine Rgd hT 4 [1, 2, 7] [(7, vb (a0.Kind == 5))] ?_
  cases hb : ((a0.Kind == 5) : Bool)
  ·replace h := cfalse hb h
   refine Sgd hT 6 [3] [(3, vb false)] ?_
   exact oK [3] [] ⟨false, h, rfl⟩
  replace h := ctrue hb h
  refine Sgd hT 3 [7, 8, 10] [(8, po s_string a1), (10, vw a0.Name)] ?_
  obtain ⟨r3, hr3, h⟩ := bsome h
  refine Pt' en85 (Contains_string_ok hr3) ?_
  refine Sg hT 2 [3] ⟨[(3, vb r3)], [(2, cb 0 58 4 (eDecl a0))], 1⟩ ?_
  exact oK [3] [] ⟨r3, h, rfl⟩
 subst hJ2
 rintro s ⟨b1, h, rfl⟩
 obtain rfl := Option.some.inj h
 exact rK [3] [] ⟨[(3, vb b1)], [], 1⟩ ⟨by kernel_rfl, rfl⟩
theorem IndexFunc_Decl_k_ferase_Of_1_ok {n : Nat} {a0 : List Decl} {a1c0 : List ByteArray} {r : Int × (List ByteArray)} (h : IndexFunc_Decl_k_ferase_Of_1 n a0 a1c0 = some r) : GO Try.prog 73 [(0, rb 0 s_Decl a0), (1, cb 0 62 1 (po s_string a1c0))] [.sl 0 0 0 (s_Decl.F a0).length false, .fn 84 [] [bx 1 0]] (vi r.1) [(0, rb 0 s_Decl a0), (1, cb 0 62 1 (po s_string r.2))] := by
 unfold IndexFunc_Decl_k_ferase_Of_1 at h
 refine GO_bodyA hT Try.func73 rfl [] (by kernel_rfl) fun bad w m => ?_
 refine Qzd hT 1 [0, 1] [] ?_
 refine WA_seq ?_
 refine Qgd hT 1 [0, 1, 6] [(6, .sl 0 0 0 (s_Decl.F a0).length false)] ?_
 refine One' hT rfl (v_len_own s_Decl 0 0 false (rb 0 s_Decl a0) a0) ?_
 refine Szd hT 1 [0, 1, 7, 8] [(7, vi (ln a0)), (8, vi 0)] ?_
 refine WA_block ?_
 refine lK [0, 1, 7, 8] [(0, 0, 0), (1, 1, 0)] (fun k s => ∃ q, q ≤ k ∧ q ≤ n ∧ ∃ (i1 : Int), IndexFunc_Decl_k_ferase_Of_1_L0 q a0 a1c0 i1 = some r ∧ s = ⟨[(0, .sl 0 0 0 (s_Decl.F a0).length false), (1, .fn 84 [] [bx 1 0]), (7, vi (ln a0)), (8, vi i1)], [(0, rb 0 s_Decl a0), (1, cb 0 62 1 (po s_string a1c0))], 2⟩) n ⟨n, Nat.le_refl _, Nat.le_refl _, 0, h, rfl⟩ (by rintro s ⟨q, hq, _, i1, h, _⟩; obtain rfl := Nat.le_zero.1 hq; rw [IndexFunc_Decl_k_ferase_Of_1_L0] at h; cases h) ?_
 clear h
 rintro k1 s ⟨q1, hk1, hn1, i1, h, rfl⟩
 rcases q1 with _ | q1
 ·rw [IndexFunc_Decl_k_ferase_Of_1_L0] at h; cases h
 rw [IndexFunc_Decl_k_ferase_Of_1_L0] at h
 refine Qzd hT 1 [0, 1, 7, 8, 9] [(9, vb (decide (i1 < (ln a0))))] ?_
 refine WA_seq ?_
 refine Ci h (fun h => ?_) fun h => ?_
 ·refine WA_skip ?_
  refine WA_seq ?_
  refine WA_block ?_
  refine Qzd hT 2 [0, 1, 5, 7, 8] [(5, vi i1)] ?_
  refine Qgd hT 3 [0, 1, 5, 7, 8, 11, 12, 13] [(11, .fn 84 [] [bx 1 0]), (12, .sl 0 0 0 (s_Decl.F a0).length false), (13, vi i1)] ?_
  obtain ⟨x2, hx2, h⟩ := bsome h
  refine One' hT rfl (v_index_own s_Decl 0 0 false (rb 0 s_Decl a0) a0 .i64 i1 hx2) ?_
  refine Sgd hT 0 [0, 1, 5, 7, 8, 11, 14] [(14, .box 0 0 i1.toNat 0)] ?_
  refine One' hT rfl (v_load_row s_Decl 0 0 (rb 0 s_Decl a0) a0 i1.toNat 0 x2 (eDecl x2) (idx_some hx2).2) ?_
  refine Sgd hT 0 [0, 1, 5, 7, 8, 11, 15] [(15, eDecl x2)] ?_
  obtain ⟨r3, hr3, h⟩ := bsome h
  refine Ob [1] [eDecl x2, bx 1 0] [eDecl x2, .ref (el_string a1c0) 0] (vb r3) en84 (erase_Of_1_ok hr3) ?_
  refine Szd hT 0 [0, 1, 5, 7, 8, 16] [(16, vb r3)] ?_
  refine Ci h (fun h => ?_) fun h => ?_
  ·refine Qzd hT 2 [4] [(4, vi i1)] ?_
   obtain rfl := Option.some.inj h
   exact rK [4] [(0, 0, 0), (1, 1, 0)] ⟨[(4, vi i1)], [(0, rb 0 s_Decl a0), (1, cb 0 62 1 (po s_string a1c0))], 2⟩ ⟨by kernel_rfl, by kernel_rfl, rfl⟩
  refine WA_skip ?_
  refine Rg hT 2 [0, 1, 7, 8] ⟨[(0, .sl 0 0 0 (s_Decl.F a0).length false), (1, .fn 84 [] [bx 1 0]), (7, vi (ln a0)), (8, vi (wr (i1 + 1)))], [(0, rb 0 s_Decl a0), (1, cb 0 62 1 (po s_string a1c0))], 2⟩ ?_
  exact oK [0, 1, 7, 8] [(0, 0, 0), (1, 1, 0)] ⟨_, by omega, by omega, wr (i1 + 1), h, rfl⟩
 refine WA_exit ?_
 refine Qzd hT 1 [4] [(4, vi (-1))] ?_
 obtain rfl := Option.some.inj h
 exact rK [4] [(0, 0, 0), (1, 1, 0)] ⟨[(4, vi (-1))], [(0, rb 0 s_Decl a0), (1, cb 0 62 1 (po s_string a1c0))], 2⟩ ⟨by kernel_rfl, by kernel_rfl, rfl⟩
theorem DeleteFunc_Decl_q_ferase_Of_1_ok {n : Nat} {a0 : List Decl} {a1c0 : List ByteArray} {r : (List Decl) × (List ByteArray)} (h : DeleteFunc_Decl_q_ferase_Of_1 n a0 a1c0 = some r) : GO Try.prog 83 [(0, rb 0 s_Decl a0), (1, cb 0 62 1 (po s_string a1c0))] [.sl 0 0 0 (s_Decl.F a0).length false, .fn 84 [] [bx 1 0]] (.sl 100 1 0 (s_Decl.F r.1).length false) [(1, cb 0 62 1 (po s_string r.2)), (100, rb 1 s_Decl r.1)] := by
 unfold DeleteFunc_Decl_q_ferase_Of_1 at h
 refine GO_bodyA hT Try.func83 rfl [] (by kernel_rfl) fun bad w m => ?_
 refine Qzd hT 1 [0, 1] [] ?_
 refine Qgd hT 2 [0, 1, 8, 9] [(8, .sl 0 0 0 (s_Decl.F a0).length false), (9, .fn 84 [] [bx 1 0])] ?_
 obtain ⟨r1, hr1, h⟩ := bsome h
 refine Og [(0, rb 0 s_Decl a0), (1, cb 0 62 1 (po s_string a1c0))] [(0, rb 0 s_Decl a0), (1, cb 0 62 1 (po s_string r1.2))] [.sl 0 0 0 (s_Decl.F a0).length false, .fn 84 [] [bx 1 0]] [.sl 0 0 0 (s_Decl.F a0).length false, .fn 84 [] [bx 1 0]] [(0, 0, 0), (1, 1, 0)] [(0, 0, 0), (1, 1, 0)] [(0, rb 0 s_Decl a0), (1, cb 0 62 1 (po s_string r1.2))] (vi r1.1) (vi r1.1) 2 en73 (IndexFunc_Decl_k_ferase_Of_1_ok hr1) ?_
 refine Szh hT 1 [0, 1, 5] [(5, vi r1.1)] [(0, rb 0 s_Decl a0), (1, cb 0 62 1 (po s_string r1.2))] 2 ?_
 refine WA_seq ?_
 refine Qzd hT 2 [0, 1, 5, 12] [(12, vb (r1.1 == (-1)))] ?_
 refine Ci h (fun h => ?_) fun h => ?_
 ·refine Qzd hT 2 [4] [(4, .sl 0 0 0 (s_Decl.F a0).length false)] ?_
  obtain rfl := Option.some.inj h
  exact rK [4] [(1, 1, 0), (0, 100, 1)] ⟨[(4, .sl 100 1 0 (s_Decl.F a0).length false)], [(1, cb 0 62 1 (po s_string r1.2)), (100, rb 1 s_Decl a0)], 2⟩ ⟨by kernel_rfl, by kernel_rfl, rfl⟩
 refine WA_skip ?_
 refine WA_seq ?_
 refine Qzd hT 3 [0, 1, 5, 6] [(6, vi (wr (r1.1 + 1)))] ?_
 refine WA_block ?_
 refine lK [0, 1, 5, 6] [(0, 0, 1), (1, 1, 0)] (fun k s => ∃ q, q ≤ k ∧ q ≤ n ∧ ∃ (l2 : List Decl), ∃ (i3 : Int), ∃ (i4 : Int), DeleteFunc_Decl_q_ferase_Of_1_L0 q a0 a1c0 r1 l2 i3 i4 = some r ∧ s = ⟨[(0, .sl 0 1 0 (s_Decl.F l2).length false), (1, .fn 84 [] [bx 1 0]), (5, vi i3), (6, vi i4)], [(0, rb 1 s_Decl l2), (1, cb 0 62 1 (po s_string r1.2))], 2⟩) n ⟨n, Nat.le_refl _, Nat.le_refl _, a0, r1.1, wr (r1.1 + 1), h, rfl⟩ (by rintro s ⟨q, hq, _, l2, i3, i4, h, _⟩; obtain rfl := Nat.le_zero.1 hq; rw [DeleteFunc_Decl_q_ferase_Of_1_L0] at h; cases h) ?_
 clear h
 rintro k1 s ⟨q1, hk1, hn1, l2, i3, i4, h, rfl⟩
 rcases q1 with _ | q1
 ·rw [DeleteFunc_Decl_q_ferase_Of_1_L0] at h; cases h
 rw [DeleteFunc_Decl_q_ferase_Of_1_L0] at h
 refine WA_seq ?_
 refine Qgd hT 2 [0, 1, 5, 6, 16, 17] [(16, vi i4), (17, .sl 0 1 0 (s_Decl.F l2).length false)] ?_
 refine One' hT rfl (v_len_own s_Decl 0 1 false (rb 1 s_Decl l2) l2) ?_
 refine Szd hT 1 [0, 1, 5, 6, 19] [(19, vb (decide (i4 < (ln l2))))] ?_
 refine Ci h (fun h => ?_) fun h => ?_
 ·refine WA_skip ?_
  refine WA_seq ?_
  obtain ⟨J7, hJ7, h⟩ := jsome h
  refine WA_join (fun s => ∃ (l5 : List Decl), ∃ (i6 : Int), J7 l5 i6 = some r ∧ s = ⟨[(0, .sl 0 1 0 (s_Decl.F l5).length false), (1, .fn 84 [] [bx 1 0]), (5, vi i6), (6, vi i4)], [(0, rb 1 s_Decl l5), (1, cb 0 62 1 (po s_string r1.2))], 2⟩) ?_ ?_
  ·refine WA_block ?_
   refine Qgd hT 2 [0, 1, 5, 6, 22, 23] [(22, .sl 0 1 0 (s_Decl.F l2).length false), (23, vi i4)] ?_
   obtain ⟨x8, hx8, h⟩ := bsome h
   refine One' hT rfl (v_index_own s_Decl 0 1 false (rb 1 s_Decl l2) l2 .i64 i4 hx8) ?_
   refine Sgd hT 0 [0, 1, 5, 6, 24] [(24, .box 0 1 i4.toNat 0)] ?_
   refine One' hT rfl (v_load_row s_Decl 0 1 (rb 1 s_Decl l2) l2 i4.toNat 0 x8 (eDecl x8) (idx_some hx8).2) ?_
   refine Szh hT 2 [0, 1, 5, 6, 7] [(7, bx 7 2)] [(7, cb 2 58 4 (eDecl x8)), (0, rb 1 s_Decl l2), (1, cb 0 62 1 (po s_string r1.2))] 3 ?_
   refine Qg hT 2 [0, 1, 5, 6, 7, 26, 27] ⟨[(0, .sl 0 1 0 (s_Decl.F l2).length false), (1, .fn 84 [] [bx 1 0]), (5, vi i3), (6, vi i4), (7, bx 7 2), (26, .fn 84 [] [bx 1 0]), (27, eDecl x8)], [(7, cb 2 58 4 (eDecl x8)), (0, rb 1 s_Decl l2), (1, cb 0 62 1 (po s_string r1.2))], 3⟩ ?_
   obtain ⟨r9, hr9, h⟩ := bsome h
   refine Ob [1] [eDecl x8, bx 1 0] [eDecl x8, .ref (el_string r1.2) 0] (vb r9) en84 (erase_Of_1_ok hr9) ?_
   refine Szd hT 1 [0, 1, 5, 6, 7, 29] [(29, vb (!r9))] ?_
   refine Ci h (fun h => ?_) fun h => ?_
   ·refine Qgd hT 3 [0, 1, 5, 6, 30, 31, 32] [(30, .sl 0 1 0 (s_Decl.F l2).length false), (31, vi i3), (32, eDecl x8)] ?_
    obtain ⟨x10, hx10, h⟩ := bsome h
    refine One' hT rfl (v_index_own s_Decl 0 1 false (rb 1 s_Decl l2) l2 .i64 i3 hx10) ?_
    refine Sgd hT 0 [0, 1, 5, 6, 32, 33] [(33, .box 0 1 i3.toNat 0)] ?_
    refine One' hT rfl (v_storeRow s_Decl 0 1 (rb 1 s_Decl l2) l2 i3.toNat 0 x10 x8 (idx_some hx10).2) ?_
    refine oW [0, 1, 5, 6, 32] ⟨[(0, .sl 0 1 0 (s_Decl.F l2).length false), (1, .fn 84 [] [bx 1 0]), (5, vi i3), (6, vi i4), (32, eDecl x8)], [(0, rb 1 s_Decl (l2.set i3.toNat x8)), (7, cb 2 58 4 (eDecl x8)), (1, cb 0 62 1 (po s_string r1.2))], 3⟩ ?_
    refine WO_weak (wL [(0, .sl 0 1 0 (s_Decl.F (l2.set i3.toNat x8)).length false), (1, .fn 84 [] [bx 1 0]), (5, vi i3), (6, vi i4), (32, eDecl x8)] [(0, rb 1 s_Decl (l2.set i3.toNat x8)), (7, cb 2 58 4 (eDecl x8)), (1, cb 0 62 1 (po s_string r1.2))] ⟨(VLf.slen (by simp [TE.len, lcopy_length, rcopy_length, clr_length])), VLf.refl _, VLf.refl _, VLf.refl _, VLf.refl _, trivial⟩ (HLe.refl _)) ?_
    refine Szh hT 0 [0, 1, 5, 6] [] [(0, rb 1 s_Decl (l2.set i3.toNat x8)), (7, cb 2 58 4 (eDecl x8)), (1, cb 0 62 1 (po s_string r1.2))] 3 ?_
    refine Rgd hT 3 [0, 1, 5, 6] [(5, vi (wr (i3 + 1)))] ?_
    exact oK [0, 1, 5, 6] [(0, 0, 1), (1, 1, 0)] ⟨l2.set i3.toNat x8, wr (i3 + 1), h, rfl⟩
   exact sK [0, 1, 5, 6] [(0, 0, 1), (1, 1, 0)] ⟨l2, i3, h, rfl⟩
  subst hJ7
  rintro s ⟨l5, i6, h, rfl⟩
  skip
  refine Rgd hT 3 [0, 1, 5, 6] [(6, vi (wr (i4 + 1)))] ?_
  exact oK [0, 1, 5, 6] [(0, 0, 1), (1, 1, 0)] ⟨_, by omega, by omega, l5, i6, wr (i4 + 1), h, rfl⟩
 refine WA_exit ?_
 refine Qgd hT 2 [0, 5, 36, 37] [(36, .sl 0 1 0 (s_Decl.F l2).length false), (37, vi i3)] ?_
 obtain ⟨g11, h⟩ := gsome h
 refine WO_weak (Weak_nn 0 (rb 1 s_Decl l2) rfl (inT_ne s_Decl g11)) ?_
 refine One' hT rfl (ev_subT s_Decl 0 1 l2 i3 false g11 (by kernel_rfl) (by kernel_rfl) (by kernel_rfl)) ?_
 refine Sgh hT 0 [0, 5, 38] [(38, .sl 0 1 i3.toNat (l2.length - i3.toNat) (false && i3 == 0))] [(0, ⟨1, 58, 4, false, false, s_Decl.F l2⟩), (1, cb 0 62 1 (po s_string r1.2))] 2 ?_
 obtain ⟨g12, h⟩ := gsome h
 refine One' hT rfl (ev_clear s_Decl 0 1 (false && i3 == 0) l2 i3 ((Decl.mk 0 b0 0 c0) : Decl) g12 (by kernel_rfl) (by kernel_rfl) rfl (by kernel_rfl)) ?_
 refine oW [0, 5] ⟨[(0, .sl 0 1 0 (s_Decl.F l2).length false), (5, vi i3)], [(0, ⟨1, 58, 4, false, false, s_Decl.F (clr l2 i3 ((Decl.mk 0 b0 0 c0) : Decl))⟩), (1, cb 0 62 1 (po s_string r1.2))], 2⟩ ?_
 refine WO_weak (wL [(0, .sl 0 1 0 (s_Decl.F (clr l2 i3 ((Decl.mk 0 b0 0 c0) : Decl))).length false), (5, vi i3)] [(0, ⟨1, 58, 4, false, false, s_Decl.F (clr l2 i3 ((Decl.mk 0 b0 0 c0) : Decl))⟩), (1, cb 0 62 1 (po s_string r1.2))] ⟨(VLf.slen (by simp [TE.len, lcopy_length, rcopy_length, clr_length])), VLf.refl _, trivial⟩ (HLe.refl _)) ?_
 refine Ze ?_
 refine Qg hT 2 [39, 40] ⟨[(39, .sl 0 1 0 (s_Decl.F (clr l2 i3 ((Decl.mk 0 b0 0 c0) : Decl))).length false), (40, vi i3)], [(0, ⟨1, 58, 4, false, false, s_Decl.F (clr l2 i3 ((Decl.mk 0 b0 0 c0) : Decl))⟩), (1, cb 0 62 1 (po s_string r1.2))], 2⟩ ?_
 obtain ⟨g13, h⟩ := gsome h
 refine WO_trunc hT s_Decl rfl 0 1 false (clr l2 i3 ((Decl.mk 0 b0 0 c0) : Decl)) i3 g13 rfl ?_
 refine oW [41, 40] ⟨[(41, .sl 0 1 0 (s_Decl.F ((clr l2 i3 ((Decl.mk 0 b0 0 c0) : Decl)).take i3.toNat)).length false), (40, vi i3)], [(0, rb 1 s_Decl ((clr l2 i3 ((Decl.mk 0 b0 0 c0) : Decl)).take i3.toNat)), (1, cb 0 62 1 (po s_string r1.2))], 2⟩ ?_
 refine Sz hT 1 [4] ⟨[(4, .sl 0 1 0 (s_Decl.F ((clr l2 i3 ((Decl.mk 0 b0 0 c0) : Decl)).take i3.toNat)).length false)], [(0, rb 1 s_Decl ((clr l2 i3 ((Decl.mk 0 b0 0 c0) : Decl)).take i3.toNat)), (1, cb 0 62 1 (po s_string r1.2))], 2⟩ ?_
 obtain rfl := Option.some.inj h
 exact rK [4] [(1, 1, 0), (0, 100, 1)] ⟨[(4, .sl 100 1 0 (s_Decl.F ((clr l2 i3 ((Decl.mk 0 b0 0 c0) : Decl)).take i3.toNat)).length false)], [(1, cb 0 62 1 (po s_string r1.2)), (100, rb 1 s_Decl ((clr l2 i3 ((Decl.mk 0 b0 0 c0) : Decl)).take i3.toNat))], 2⟩ ⟨by kernel_rfl, by kernel_rfl, rfl⟩
theorem Clip_Decl_q_ok {n : Nat} {a0 : List Decl} {r : List Decl} (h : Clip_Decl_q n a0 = some r) : GO Try.prog 82 [(0, rb 0 s_Decl a0)] [.sl 0 0 0 (s_Decl.F a0).length false] (.sl 100 1 0 (s_Decl.F r).length false) [(100, rb 1 s_Decl r)] := by
 unfold Clip_Decl_q at h
 refine GO_bodyA hT Try.func82 rfl [] (by kernel_rfl) fun bad w m => ?_
 refine Qzd hT 1 [0] [] ?_
 refine Qgd hT 2 [0, 3, 4] [(3, .sl 0 0 0 (s_Decl.F a0).length false), (4, .sl 0 0 0 (s_Decl.F a0).length false)] ?_
 refine One' hT rfl (v_len_own s_Decl 0 0 false (rb 0 s_Decl a0) a0) ?_
 refine Sgd hT 1 [3, 5, 6] [(5, vi (ln a0)), (6, .sl 0 0 0 (s_Decl.F a0).length false)] ?_
 refine One' hT rfl (v_len_own s_Decl 0 0 false (rb 0 s_Decl a0) a0) ?_
 refine Sgd hT 0 [3, 5, 7] [(7, vi (ln a0))] ?_
 refine WO_clip' hT s_Decl rfl (by kernel_rfl) 0 0 (s_Decl.F a0).length false (rb 0 s_Decl a0) rfl (by kernel_rfl) (by kernel_rfl) rfl (by rw [TE.len]; kernel_rfl) (by rw [TE.len]; kernel_rfl) (by kernel_rfl) ?_
 refine Sz hT 1 [2] ⟨[(2, .sl 0 0 0 (s_Decl.F a0).length false)], [(0, rb 0 s_Decl a0)], 1⟩ ?_
 obtain rfl := Option.some.inj h
 exact rK [2] [(0, 100, 1)] ⟨[(2, .sl 100 1 0 (s_Decl.F a0).length false)], [(100, rb 1 s_Decl a0)], 2⟩ ⟨by kernel_rfl, by kernel_rfl, rfl⟩
theorem Clip_Stmt_ok {n : Nat} {a0 : List Stmt} {r : List Stmt} (h : Clip_Stmt n a0 = some r) : PT Try.prog 111 [po s_Stmt a0] (.ps .fopt (s_Stmt.F r)) := by
 unfold Clip_Stmt at h
 refine PT_bodyA hT Try.func111 rfl (by kernel_rfl) fun bad w => ?_
 refine Qzd hT 1 [0] [] ?_
 refine Qgd hT 2 [0, 3, 4] [(3, po s_Stmt a0), (4, po s_Stmt a0)] ?_
 refine One' hT rfl (v_len s_Stmt .opt a0) ?_
 refine Sgd hT 1 [3, 5, 6] [(5, vi (ln a0)), (6, po s_Stmt a0)] ?_
 refine One' hT rfl (v_len s_Stmt .opt a0) ?_
 refine Sgd hT 0 [3, 5, 7] [(7, vi (ln a0))] ?_
 obtain ⟨l1, hl1, h⟩ := bsome h
 refine One' hT rfl (v_slice s_Stmt .opt a0 0 (ln a0) (some (ln a0)) l1 .fopt hl1 (by intro y hy; cases hy; rfl)) ?_
 refine Sz hT 1 [2] ⟨[(2, .ps .fopt (s_Stmt.F l1))], [], 0⟩ ?_
 obtain rfl := Option.some.inj h
 exact rK [2] [] ⟨[(2, .ps .fopt (s_Stmt.F l1))], [], 1⟩ ⟨by kernel_rfl, rfl⟩
def erase_block_spec (n : Nat) : Prop := (∀ {a0 : List Stmt} {a1 : List ByteArray} {r : List Stmt}, erase_block n a0 a1 = some r → PT Try.prog 86 [po s_Stmt a0, po s_string a1] (.ps .fopt (s_Stmt.F r)))
theorem erase_block_step (n : Nat) (ih : ∀ m, m < n → erase_block_spec m) : ∀ {a0 : List Stmt} {a1 : List ByteArray} {r : List Stmt}, erase_block n a0 a1 = some r → PT Try.prog 86 [po s_Stmt a0, po s_string a1] (.ps .fopt (s_Stmt.F r)) := by
 intro a0 a1 r h
 rcases n with _ | n
 ·rw [erase_block] at h; cases h
 rw [erase_block] at h
 refine PT_bodyA hT Try.func86 rfl (by kernel_rfl) fun bad w => ?_
 refine Qzd hT 1 [0, 1] [] ?_
 refine Qzd hT 1 [0, 1, 5] [(5, vn)] ?_
 refine WA_seq ?_
 refine Qgd hT 1 [1, 5, 8] [(8, po s_Stmt a0)] ?_
 refine One' hT rfl (v_len s_Stmt .opt a0) ?_
 refine Szd hT 1 [1, 5, 8, 9, 10] [(9, vi (ln a0)), (10, vi 0)] ?_
 refine WA_block ?_
 refine aW [1, 5, 8, 9, 10] ⟨[(1, po s_string a1), (5, vn), (8, po s_Stmt a0), (9, vi (ln a0)), (10, vi 0)], [], 0⟩ ?_
 refine WA_weak (wO 5 5000 38 11) ?_
 refine lK [1, 5, 8, 9, 10] [(5000, 10005, 0)] (fun k s => ∃ q, q ≤ k ∧ q ≤ n ∧ ∃ (l1 : List Stmt), ∃ (i2 : Int), erase_block_L0 q a0 a1 l1 i2 = some r ∧ s = ⟨[(1, po s_string a1), (5, vs 10005 0 s_Stmt l1), (8, po s_Stmt a0), (9, vi (ln a0)), (10, vi i2)], [(10005, rb 0 s_Stmt l1)], 1⟩) n ⟨n, Nat.le_refl _, Nat.le_refl _, ([] : List Stmt), 0, h, rfl⟩ (by rintro s ⟨q, hq, _, l1, i2, h, _⟩; obtain rfl := Nat.le_zero.1 hq; rw [erase_block_L0] at h; cases h) ?_
 clear h
 rintro k1 s ⟨q1, hk1, hn1, l1, i2, h, rfl⟩
 rcases q1 with _ | q1
 ·rw [erase_block_L0] at h; cases h
 rw [erase_block_L0] at h
 refine Qzd hT 1 [1, 5, 8, 9, 10, 11] [(11, vb (decide (i2 < (ln a0))))] ?_
 refine WA_seq ?_
 refine Ci h (fun h => ?_) fun h => ?_
 ·refine WA_skip ?_
  refine WA_seq ?_
  obtain ⟨J4, hJ4, h⟩ := jsome h
  refine WA_join (fun s => ∃ (l3 : List Stmt), J4 l3 = some r ∧ s = ⟨[(1, po s_string a1), (5, vs 10005 0 s_Stmt l3), (8, po s_Stmt a0), (9, vi (ln a0)), (10, vi i2)], [(10005, rb 0 s_Stmt l3)], 1⟩) ?_ ?_
  ·refine WA_block ?_
   refine Qgd hT 0 [1, 5, 8, 9, 10] [] ?_
   obtain ⟨x5, hx5, h⟩ := bsome h
   refine One' hT rfl (v_index s_Stmt .opt a0 .i64 i2 hx5) ?_
   refine Szh hT 3 [1, 5, 7, 8, 9, 10] [(7, bx 7 1)] [(7, cb 1 38 11 (eStmt x5)), (10005, rb 0 s_Stmt l1)] 2 ?_
   refine WA_seq ?_
   refine WA_seq ?_
   obtain ⟨J7, hJ7, h⟩ := jsome h
   refine WA_join (fun s => ∃ (b6 : Bool), J7 b6 = some r ∧ s = ⟨[(1, po s_string a1), (5, vs 10005 0 s_Stmt l1), (7, bx 7 0), (8, po s_Stmt a0), (9, vi (ln a0)), (10, vi i2), (27, vb b6)], [(7, cb 0 38 11 (eStmt x5)), (10005, rb 0 s_Stmt l1)], 1⟩) ?_ ?_
   ·refine Rgd hT 4 [1, 5, 7, 8, 9, 10, 17] [(17, vb (x5.Kind == 2))] ?_
    cases hb : ((x5.Kind == 2) : Bool)
    ·replace h := cfalse hb h
     refine Sgd hT 5 [1, 5, 7, 8, 9, 10, 22] [(22, vb (x5.Kind == 3))] ?_
     cases hb : ((x5.Kind == 3) : Bool)
     ·replace h := cfalse hb h
      refine Sgd hT 5 [1, 5, 7, 8, 9, 10, 27] [(27, vb false)] ?_
      exact oK [1, 5, 7, 8, 9, 10, 27] [(7, 7, 0), (10005, 10005, 0)] ⟨false, h, rfl⟩
     replace h := ctrue hb h
     refine Sg hT 3 [1, 5, 7, 8, 9, 10, 22, 23, 25] ⟨[(1, po s_string a1), (5, vs 10005 0 s_Stmt l1), (7, bx 7 1), (8, po s_Stmt a0), (9, vi (ln a0)), (10, vi i2), (22, vb true), (23, po s_string a1), (25, vw x5.Name)], [(7, cb 1 38 11 (eStmt x5)), (10005, rb 0 s_Stmt l1)], 2⟩ ?_
     obtain ⟨r8, hr8, h⟩ := bsome h
     refine Pt' en85 (Contains_string_ok hr8) ?_
     refine Sgd hT 1 [1, 5, 7, 8, 9, 10, 27] [(27, vb r8)] ?_
     exact oK [1, 5, 7, 8, 9, 10, 27] [(7, 7, 0), (10005, 10005, 0)] ⟨r8, h, rfl⟩
    replace h := ctrue hb h
    refine Sgd hT 8 [1, 5, 7, 8, 9, 10, 22, 23, 25] [(22, vb true), (23, po s_string a1), (25, vw x5.Name)] ?_
    obtain ⟨r9, hr9, h⟩ := bsome h
    refine Pt' en85 (Contains_string_ok hr9) ?_
    refine Sgd hT 1 [1, 5, 7, 8, 9, 10, 27] [(27, vb r9)] ?_
    exact oK [1, 5, 7, 8, 9, 10, 27] [(7, 7, 0), (10005, 10005, 0)] ⟨r9, h, rfl⟩
   subst hJ7
   rintro s ⟨b6, h, rfl⟩
   skip
   refine Ci h (fun h => ?_) fun h => ?_
   ·exact eK [1, 5, 8, 9, 10] [(10005, 10005, 0)] ⟨l1, h, rfl⟩
   refine WA_skip ?_
   refine WA_seq ?_
   refine WA_drawW hT hM (by kernel_rfl) ?_
   refine Ds 3 [(30, po s_string a1), (29, po s_Stmt x5.Body), (28, .box 7 0 0 8)] [] [(0, [7]), (1, [7])] ?_
   obtain ⟨r10, hr10, h⟩ := bsome h
   refine Dp [po s_Stmt x5.Body, po s_string a1] (.ps .fopt (s_Stmt.F r10)) en86 ((ih _ (by omega)) hr10) ?_
   refine Ds 3 [(34, po s_string a1), (33, po s_Stmt x5.Else), (32, .box 7 0 0 9)] [] [(4, [7]), (5, [7])] ?_
   obtain ⟨r11, hr11, h⟩ := bsome h
   refine Dp [po s_Stmt x5.Else, po s_string a1] (.ps .fopt (s_Stmt.F r11)) en86 ((ih _ (by omega)) hr11) ?_
   refine Dh 4 [(37, .box 7 0 0 9), (36, .box 7 0 0 8)] [(7, cb 0 38 11 (.agg [vi x5.Kind, vw x5.Name, vw x5.Other, vi x5.N, vi x5.E.Kind, vi x5.E.N, vw x5.E.Name, po s_Expr x5.E.Of, .ps .fopt (s_Stmt.F r10), .ps .fopt (s_Stmt.F r11), vz x5.At])), (10005, rb 0 s_Stmt l1)] 1 [(9, [7]), (11, [7])] [(8, [7]), (10, [7])] ?_
   refine De ?_
   refine Wk_done ?_
   refine Rgd hT 2 [1, 8, 9, 10, 38, 39] [(38, vs 10005 0 s_Stmt l1), (39, .agg [vi x5.Kind, vw x5.Name, vw x5.Other, vi x5.N, vi x5.E.Kind, vi x5.E.N, vw x5.E.Name, po s_Expr x5.E.Of, .ps .fopt (s_Stmt.F r10), .ps .fopt (s_Stmt.F r11), vz x5.At])] ?_
   refine One' hT rfl (ev_bslice s_Stmt 40 [(Stmt.mk x5.Kind x5.Name x5.Other x5.N x5.E r10 r11 x5.At)] (by kernel_rfl)) ?_
   refine Sgh hT 0 [1, 8, 9, 10, 38, 40] [(40, vs 40 1 s_Stmt [(Stmt.mk x5.Kind x5.Name x5.Other x5.N x5.E r10 r11 x5.At)])] [(40, ⟨1, 38, 11, false, false, s_Stmt.F [(Stmt.mk x5.Kind x5.Name x5.Other x5.N x5.E r10 r11 x5.At)]⟩), (7, cb 0 38 11 (.agg [vi x5.Kind, vw x5.Name, vw x5.Other, vi x5.N, vi x5.E.Kind, vi x5.E.N, vw x5.E.Name, po s_Expr x5.E.Of, .ps .fopt (s_Stmt.F r10), .ps .fopt (s_Stmt.F r11), vz x5.At])), (10005, rb 0 s_Stmt l1)] 2 ?_
   obtain ⟨g12, h⟩ := gsome h
   refine Oa hT s_Stmt 10005 0 true l1 [(Stmt.mk x5.Kind x5.Name x5.Other x5.N x5.E r10 r11 x5.At)] (eO s_Stmt 40 1 true ⟨1, 38, 11, false, false, s_Stmt.F [(Stmt.mk x5.Kind x5.Name x5.Other x5.N x5.E r10 r11 x5.At)]⟩ [(Stmt.mk x5.Kind x5.Name x5.Other x5.N x5.E r10 r11 x5.At)]) g12 ?_
   refine Sgh hT 1 [1, 5, 8, 9, 10] [(5, vs 41 2 s_Stmt (l1 ++ [(Stmt.mk x5.Kind x5.Name x5.Other x5.N x5.E r10 r11 x5.At)]))] [(41, rb 2 s_Stmt (l1 ++ [(Stmt.mk x5.Kind x5.Name x5.Other x5.N x5.E r10 r11 x5.At)])), (40, ⟨1, 38, 11, false, false, s_Stmt.F [(Stmt.mk x5.Kind x5.Name x5.Other x5.N x5.E r10 r11 x5.At)]⟩), (7, cb 0 38 11 (.agg [vi x5.Kind, vw x5.Name, vw x5.Other, vi x5.N, vi x5.E.Kind, vi x5.E.N, vw x5.E.Name, po s_Expr x5.E.Of, .ps .fopt (s_Stmt.F r10), .ps .fopt (s_Stmt.F r11), vz x5.At]))] 3 ?_
   exact oK [1, 5, 8, 9, 10] [(41, 10005, 0)] ⟨l1 ++ [(Stmt.mk x5.Kind x5.Name x5.Other x5.N x5.E r10 r11 x5.At)], h, rfl⟩
  subst hJ4
  rintro s ⟨l3, h, rfl⟩
  skip
  refine Rgd hT 2 [1, 5, 8, 9, 10] [(10, vi (wr (i2 + 1)))] ?_
  exact oK [1, 5, 8, 9, 10] [(10005, 10005, 0)] ⟨_, by omega, by omega, l3, wr (i2 + 1), h, rfl⟩
 refine WA_exit ?_
 refine Qgd hT 1 [43] [(43, vs 10005 0 s_Stmt l1)] ?_
 refine WO_weak (wF 10005 0 (rb 0 s_Stmt l1) [(43, po s_Stmt l1)] [] ⟨rfl, .hit true, trivial⟩ trivial) ?_
 obtain ⟨r13, hr13, h⟩ := bsome h
 refine Pt' en111 (Clip_Stmt_ok hr13) ?_
 refine Sz hT 1 [4] ⟨[(4, .ps .fopt (s_Stmt.F r13))], [], 1⟩ ?_
 obtain rfl := Option.some.inj h
 exact rK [4] [] ⟨[(4, .ps .fopt (s_Stmt.F r13))], [], 1⟩ ⟨by kernel_rfl, rfl⟩
theorem erase_block_all (n : Nat) : erase_block_spec n := by
 induction n using Nat.strongRecOn with
 | _ n ih => exact erase_block_step n ih
theorem erase_block_ok {n : Nat} {a0 : List Stmt} {a1 : List ByteArray} {r : List Stmt} (h : erase_block n a0 a1 = some r) : PT Try.prog 86 [po s_Stmt a0, po s_string a1] (.ps .fopt (s_Stmt.F r)) := (erase_block_all n) h
theorem erase_Of_ok {n : Nat} {a0 : Prog} {a1 : List ByteArray} {a2 : List ByteArray} {r : Prog} (h : erase_Of n a0 a1 a2 = some r) : PT Try.prog 41 [eProg a0, po s_string a1, po s_string a2] (eProg r) := by
 unfold erase_Of at h
 refine PT_bodyA hT Try.func41 rfl (by kernel_rfl) fun bad w => ?_
 refine Qzh hT 3 [2, 3, 4, 6] [(3, bx 3 0), (4, bx 4 1), (6, bx 6 2)] [(6, cb 2 26 2 (.agg [vn, vn])), (4, cb 1 62 1 (po s_string a1)), (3, cb 0 26 2 (eProg a0))] 3 ?_
 refine Qgd hT 1 [2, 4, 6, 12] [(12, eProg a0)] ?_
 obtain ⟨r1, hr1, h⟩ := bsome h
 refine Og [] [(100, rb 1 s_Decl r1.Decls), (101, rb 1 s_LStmt r1.Threads)] [eProg a0] [eProg a0] [] [(100, 13, 3), (101, 8301, 3)] [(13, rb 3 s_Decl r1.Decls), (8301, rb 3 s_LStmt r1.Threads)] (.agg [.sl 100 1 0 (s_Decl.F r1.Decls).length false, .sl 101 1 0 (s_LStmt.F r1.Threads).length false]) (.agg [.sl 13 3 0 (s_Decl.F r1.Decls).length false, .sl 8301 3 0 (s_LStmt.F r1.Threads).length false]) 4 en81 (tree_Copy_ok hr1) ?_
 refine Szh hT 2 [2, 4, 6, 7] [(7, bx 7 4)] [(7, cb 4 26 2 (.agg [.sl 13 3 0 (s_Decl.F r1.Decls).length false, .sl 8301 3 0 (s_LStmt.F r1.Threads).length false])), (13, rb 3 s_Decl r1.Decls), (8301, rb 3 s_LStmt r1.Threads), (6, cb 2 26 2 (.agg [vn, vn])), (4, cb 1 62 1 (po s_string a1)), (3, cb 0 26 2 (eProg a0))] 5 ?_
 refine Qgd hT 3 [2, 4, 6, 7, 15, 16] [(15, .sl 13 3 0 (s_Decl.F r1.Decls).length false), (16, .fn 84 [] [bx 4 1])] ?_
 obtain ⟨r2, hr2, h⟩ := bsome h
 refine Og [(0, rb 0 s_Decl r1.Decls), (1, cb 0 62 1 (po s_string a1))] [(1, cb 0 62 1 (po s_string r2.2)), (100, rb 1 s_Decl r2.1)] [.sl 13 3 0 (s_Decl.F r1.Decls).length false, .fn 84 [] [bx 4 1]] [.sl 0 0 0 (s_Decl.F r1.Decls).length false, .fn 84 [] [bx 1 0]] [(13, 0, 0), (4, 1, 0)] [(100, 17, 5), (1, 4, 1)] [(17, rb 5 s_Decl r2.1), (4, cb 1 62 1 (po s_string r2.2))] (.sl 100 1 0 (s_Decl.F r2.1).length false) (.sl 17 5 0 (s_Decl.F r2.1).length false) 6 en83 (DeleteFunc_Decl_q_ferase_Of_1_ok hr2) ?_
 refine Sgh hT 0 [2, 4, 6, 7, 17] [(17, .sl 17 5 0 (s_Decl.F r2.1).length false)] [(17, rb 5 s_Decl r2.1), (4, cb 1 62 1 (po s_string r2.2)), (7, cb 4 26 2 (.agg [.sl 13 3 0 (s_Decl.F r1.Decls).length false, .sl 8301 3 0 (s_LStmt.F r1.Threads).length false])), (8301, rb 3 s_LStmt r1.Threads), (6, cb 2 26 2 (.agg [vn, vn])), (3, cb 0 26 2 (eProg a0))] 6 ?_
 obtain ⟨r3, hr3, h⟩ := bsome h
 refine Og [(0, rb 0 s_Decl r2.1)] [(100, rb 1 s_Decl r3)] [.sl 17 5 0 (s_Decl.F r2.1).length false] [.sl 0 0 0 (s_Decl.F r2.1).length false] [(17, 0, 0)] [(100, 18, 6)] [(18, rb 6 s_Decl r3)] (.sl 100 1 0 (s_Decl.F r3).length false) (.sl 18 6 0 (s_Decl.F r3).length false) 7 en82 (Clip_Decl_q_ok hr3) ?_
 refine Szh hT 2 [2, 4, 6, 7] [] [(7, cb 4 26 2 (.agg [.sl 18 6 0 (s_Decl.F r3).length false, .sl 8301 3 0 (s_LStmt.F r1.Threads).length false])), (18, rb 6 s_Decl r3), (4, cb 1 62 1 (po s_string r2.2)), (8301, rb 3 s_LStmt r1.Threads), (6, cb 2 26 2 (.agg [vn, vn])), (3, cb 0 26 2 (eProg a0))] 7 ?_
 refine WA_seq ?_
 refine Qgd hT 2 [2, 4, 6, 7, 21] [(21, .sl 18 6 0 (s_Decl.F r3).length false)] ?_
 refine One' hT rfl (v_len_own s_Decl 18 6 false (rb 6 s_Decl r3) r3) ?_
 refine Szd hT 1 [2, 4, 6, 7, 21, 22, 23] [(22, vi (ln r3)), (23, vi 0)] ?_
 refine WA_block ?_
 refine lK [2, 4, 6, 7, 21, 22, 23] [(4, 4, 0), (6, 6, 0), (7, 7, 0), (18, 18, 0), (8301, 8301, 0)] (fun k s => ∃ q, q ≤ k ∧ q ≤ n ∧ ∃ (l4 : List Decl), ∃ (i5 : Int), erase_Of_L0 q a0 a1 a2 r1 r2 r3 l4 i5 = some r ∧ s = ⟨[(2, po s_string a2), (4, bx 4 0), (6, bx 6 0), (7, bx 7 0), (21, .sl 18 0 0 (s_Decl.F l4).length false), (22, vi (ln r3)), (23, vi i5)], [(4, cb 0 62 1 (po s_string r2.2)), (6, cb 0 26 2 (.agg [vn, vn])), (7, cb 0 26 2 (.agg [.sl 18 0 0 (s_Decl.F l4).length false, .sl 8301 0 0 (s_LStmt.F r1.Threads).length false])), (18, rb 0 s_Decl l4), (8301, rb 0 s_LStmt r1.Threads)], 1⟩) n ⟨n, Nat.le_refl _, Nat.le_refl _, r3, 0, h, rfl⟩ (by rintro s ⟨q, hq, _, l4, i5, h, _⟩; obtain rfl := Nat.le_zero.1 hq; rw [erase_Of_L0] at h; cases h) ?_
 clear h
 rintro k1 s ⟨q1, hk1, hn1, l4, i5, h, rfl⟩
 rcases q1 with _ | q1
 ·rw [erase_Of_L0] at h; cases h
 rw [erase_Of_L0] at h
 refine Qzd hT 1 [2, 4, 6, 7, 21, 22, 23, 24] [(24, vb (decide (i5 < (ln r3))))] ?_
 refine WA_seq ?_
 refine Ci h (fun h => ?_) fun h => ?_
 ·refine WA_skip ?_
  refine WA_seq ?_
  obtain ⟨J7, hJ7, h⟩ := jsome h
  refine WA_join (fun s => ∃ (l6 : List Decl), J7 l6 = some r ∧ s = ⟨[(2, po s_string a2), (4, bx 4 0), (6, bx 6 0), (7, bx 7 0), (21, .sl 18 0 0 (s_Decl.F l6).length false), (22, vi (ln r3)), (23, vi i5)], [(4, cb 0 62 1 (po s_string r2.2)), (6, cb 0 26 2 (.agg [vn, vn])), (7, cb 0 26 2 (.agg [.sl 18 0 0 (s_Decl.F l6).length false, .sl 8301 0 0 (s_LStmt.F r1.Threads).length false])), (18, rb 0 s_Decl l6), (8301, rb 0 s_LStmt r1.Threads)], 1⟩) ?_ ?_
  ·refine WA_block ?_
   refine Qgd hT 1 [2, 4, 6, 7, 21, 22, 23, 25] [(25, vi i5)] ?_
   obtain ⟨x8, hx8, h⟩ := bsome h
   refine One' hT rfl (v_index_own s_Decl 18 0 false (rb 0 s_Decl l4) l4 .i64 i5 hx8) ?_
   refine Sgd hT 0 [2, 4, 6, 7, 21, 22, 23, 25, 26] [(26, .box 18 0 i5.toNat 0)] ?_
   refine One' hT rfl (v_load_row s_Decl 18 0 (rb 0 s_Decl l4) l4 i5.toNat 0 x8 (eDecl x8) (idx_some hx8).2) ?_
   refine Sz hT 3 [2, 4, 6, 7, 8, 9, 21, 22, 23] ⟨[(2, po s_string a2), (4, bx 4 0), (6, bx 6 0), (7, bx 7 0), (8, vi i5), (9, bx 9 1), (21, .sl 18 0 0 (s_Decl.F l4).length false), (22, vi (ln r3)), (23, vi i5)], [(9, cb 1 58 4 (eDecl x8)), (4, cb 0 62 1 (po s_string r2.2)), (6, cb 0 26 2 (.agg [vn, vn])), (7, cb 0 26 2 (.agg [.sl 18 0 0 (s_Decl.F l4).length false, .sl 8301 0 0 (s_LStmt.F r1.Threads).length false])), (18, rb 0 s_Decl l4), (8301, rb 0 s_LStmt r1.Threads)], 2⟩ ?_
   refine WA_seq ?_
   obtain ⟨J10, hJ10, h⟩ := jsome h
   refine WA_join (fun s => ∃ (b9 : Bool), J10 b9 = some r ∧ s = ⟨[(2, po s_string a2), (4, bx 4 0), (6, bx 6 0), (7, bx 7 0), (8, vi i5), (21, .sl 18 0 0 (s_Decl.F l4).length false), (22, vi (ln r3)), (23, vi i5), (36, vb b9)], [(4, cb 0 62 1 (po s_string r2.2)), (6, cb 0 26 2 (.agg [vn, vn])), (7, cb 0 26 2 (.agg [.sl 18 0 0 (s_Decl.F l4).length false, .sl 8301 0 0 (s_LStmt.F r1.Threads).length false])), (18, rb 0 s_Decl l4), (8301, rb 0 s_LStmt r1.Threads)], 1⟩) ?_ ?_
   ·refine Rgd hT 4 [2, 4, 6, 7, 8, 9, 21, 22, 23, 31] [(31, vb (x8.Kind == 3))] ?_
    cases hb : ((x8.Kind == 3) : Bool)
    ·replace h := cfalse hb h
     refine Sgd hT 5 [2, 4, 6, 7, 8, 21, 22, 23, 36] [(36, vb false)] ?_
     exact oK [2, 4, 6, 7, 8, 21, 22, 23, 36] [(4, 4, 0), (6, 6, 0), (7, 7, 0), (18, 18, 0), (8301, 8301, 0)] ⟨false, h, rfl⟩
    replace h := ctrue hb h
    refine Sgd hT 3 [2, 4, 6, 7, 8, 21, 22, 23, 31, 32, 34] [(32, po s_string a2), (34, vw x8.Name)] ?_
    obtain ⟨r11, hr11, h⟩ := bsome h
    refine Pt' en85 (Contains_string_ok hr11) ?_
    refine Sgd hT 1 [2, 4, 6, 7, 8, 21, 22, 23, 36] [(36, vb r11)] ?_
    exact oK [2, 4, 6, 7, 8, 21, 22, 23, 36] [(4, 4, 0), (6, 6, 0), (7, 7, 0), (18, 18, 0), (8301, 8301, 0)] ⟨r11, h, rfl⟩
   subst hJ10
   rintro s ⟨b9, h, rfl⟩
   skip
   refine Ci h (fun h => ?_) fun h => ?_
   ·refine Rg hT 3 [2, 4, 6, 7, 21, 22, 23, 38, 39] ⟨[(2, po s_string a2), (4, bx 4 0), (6, bx 6 0), (7, bx 7 0), (21, .sl 18 0 0 (s_Decl.F l4).length false), (22, vi (ln r3)), (23, vi i5), (38, .sl 18 0 0 (s_Decl.F l4).length false), (39, vi i5)], [(4, cb 0 62 1 (po s_string r2.2)), (6, cb 0 26 2 (.agg [vn, vn])), (7, cb 0 26 2 (.agg [.sl 18 0 0 (s_Decl.F l4).length false, .sl 8301 0 0 (s_LStmt.F r1.Threads).length false])), (18, rb 0 s_Decl l4), (8301, rb 0 s_LStmt r1.Threads)], 1⟩ ?_
    obtain ⟨x12, hx12, h⟩ := bsome h
    refine One' hT rfl (v_index_own s_Decl 18 0 false (rb 0 s_Decl l4) l4 .i64 i5 hx12) ?_
    refine Sgd hT 1 [2, 4, 6, 7, 21, 22, 23, 41] [(41, .box 18 0 i5.toNat 0)] ?_
    refine One' hT rfl (v_storeRow s_Decl 18 0 (rb 0 s_Decl l4) l4 i5.toNat 0 x12 (Decl.mk 1 x12.Name x12.N x12.At) (idx_some hx12).2) ?_
    refine oW [2, 4, 6, 7, 21, 22, 23] ⟨[(2, po s_string a2), (4, bx 4 0), (6, bx 6 0), (7, bx 7 0), (21, .sl 18 0 0 (s_Decl.F l4).length false), (22, vi (ln r3)), (23, vi i5)], [(18, rb 0 s_Decl (l4.set i5.toNat (Decl.mk 1 x12.Name x12.N x12.At))), (4, cb 0 62 1 (po s_string r2.2)), (6, cb 0 26 2 (.agg [vn, vn])), (7, cb 0 26 2 (.agg [.sl 18 0 0 (s_Decl.F l4).length false, .sl 8301 0 0 (s_LStmt.F r1.Threads).length false])), (8301, rb 0 s_LStmt r1.Threads)], 1⟩ ?_
    refine WO_weak (wL [(2, po s_string a2), (4, bx 4 0), (6, bx 6 0), (7, bx 7 0), (21, .sl 18 0 0 (s_Decl.F (l4.set i5.toNat (Decl.mk 1 x12.Name x12.N x12.At))).length false), (22, vi (ln r3)), (23, vi i5)] [(18, rb 0 s_Decl (l4.set i5.toNat (Decl.mk 1 x12.Name x12.N x12.At))), (4, cb 0 62 1 (po s_string r2.2)), (6, cb 0 26 2 (.agg [vn, vn])), (7, cb 0 26 2 (.agg [.sl 18 0 0 (s_Decl.F (l4.set i5.toNat (Decl.mk 1 x12.Name x12.N x12.At))).length false, .sl 8301 0 0 (s_LStmt.F r1.Threads).length false])), (8301, rb 0 s_LStmt r1.Threads)] ⟨VLf.refl _, VLf.refl _, VLf.refl _, VLf.refl _, (VLf.slen (by simp [TE.len, lcopy_length, rcopy_length, clr_length])), VLf.refl _, VLf.refl _, trivial⟩ ⟨rfl, .inl rfl, rfl, .inl rfl, rfl, .inl rfl, rfl, .inr (.inl ⟨rfl, rfl, CLe.agg ⟨(VLf.slen (by simp [TE.len, lcopy_length, rcopy_length, clr_length])), VLf.refl _, trivial⟩, trivial⟩), rfl, .inl rfl, trivial⟩) ?_
    exact oK [2, 4, 6, 7, 21, 22, 23] [(4, 4, 0), (6, 6, 0), (7, 7, 0), (18, 18, 0), (8301, 8301, 0)] ⟨l4.set i5.toNat (Decl.mk 1 x12.Name x12.N x12.At), h, rfl⟩
   exact sK [2, 4, 6, 7, 21, 22, 23] [(4, 4, 0), (6, 6, 0), (7, 7, 0), (18, 18, 0), (8301, 8301, 0)] ⟨l4, h, rfl⟩
  subst hJ7
  rintro s ⟨l6, h, rfl⟩
  skip
  refine Rgd hT 2 [2, 4, 6, 7, 21, 22, 23] [(23, vi (wr (i5 + 1)))] ?_
  exact oK [2, 4, 6, 7, 21, 22, 23] [(4, 4, 0), (6, 6, 0), (7, 7, 0), (18, 18, 0), (8301, 8301, 0)] ⟨_, by omega, by omega, l6, wr (i5 + 1), h, rfl⟩
 refine WA_exit ?_
 refine WA_seq ?_
 refine Qgd hT 2 [4, 6, 7, 44] [(44, .sl 8301 0 0 (s_LStmt.F r1.Threads).length false)] ?_
 refine One' hT rfl (v_len_own s_LStmt 8301 0 false (rb 0 s_LStmt r1.Threads) r1.Threads) ?_
 refine Szd hT 1 [4, 6, 7, 44, 45, 46] [(45, vi (ln r1.Threads)), (46, vi 0)] ?_
 refine WA_block ?_
 refine lK [4, 6, 7, 44, 45, 46] [(4, 4, 0), (6, 6, 0), (7, 7, 0), (18, 18, 0), (8301, 8301, 0)] (fun k s => ∃ q, q ≤ k ∧ q ≤ q1 ∧ ∃ (l13 : List (List Stmt)), ∃ (i14 : Int), erase_Of_L1 q a0 a1 a2 r1 r2 r3 l4 i5 l13 i14 = some r ∧ s = ⟨[(4, bx 4 0), (6, bx 6 0), (7, bx 7 0), (44, .sl 8301 0 0 (s_LStmt.F l13).length false), (45, vi (ln r1.Threads)), (46, vi i14)], [(4, cb 0 62 1 (po s_string r2.2)), (6, cb 0 26 2 (.agg [vn, vn])), (7, cb 0 26 2 (.agg [.sl 18 0 0 (s_Decl.F l4).length false, .sl 8301 0 0 (s_LStmt.F l13).length false])), (18, rb 0 s_Decl l4), (8301, rb 0 s_LStmt l13)], 1⟩) q1 ⟨q1, Nat.le_refl _, Nat.le_refl _, r1.Threads, 0, h, rfl⟩ (by rintro s ⟨q, hq, _, l13, i14, h, _⟩; obtain rfl := Nat.le_zero.1 hq; rw [erase_Of_L1] at h; cases h) ?_
 clear h
 rintro k2 s ⟨q2, hk2, hn2, l13, i14, h, rfl⟩
 rcases q2 with _ | q2
 ·rw [erase_Of_L1] at h; cases h
 rw [erase_Of_L1] at h
 refine Qzd hT 1 [4, 6, 7, 44, 45, 46, 47] [(47, vb (decide (i14 < (ln r1.Threads))))] ?_
 refine WA_seq ?_
 refine Ci h (fun h => ?_) fun h => ?_
 ·refine WA_skip ?_
  refine WA_seq ?_
  refine WA_block ?_
  refine Qgd hT 1 [4, 6, 7, 44, 45, 46, 48] [(48, vi i14)] ?_
  obtain ⟨x15, hx15, h⟩ := bsome h
  refine One' hT rfl (v_index_own s_LStmt 8301 0 false (rb 0 s_LStmt l13) l13 .i64 i14 hx15) ?_
  refine Sgd hT 0 [4, 6, 7, 44, 45, 46, 48, 49] [(49, .box 8301 0 i14.toNat 0)] ?_
  refine One' hT rfl (v_load_row s_LStmt 8301 0 (rb 0 s_LStmt l13) l13 i14.toNat 0 x15 (po s_Stmt x15) (idx_some hx15).2) ?_
  refine Sz hT 2 [4, 6, 7, 10, 11, 44, 45, 46] ⟨[(4, bx 4 0), (6, bx 6 0), (7, bx 7 0), (10, vi i14), (11, po s_Stmt x15), (44, .sl 8301 0 0 (s_LStmt.F l13).length false), (45, vi (ln r1.Threads)), (46, vi i14)], [(4, cb 0 62 1 (po s_string r2.2)), (6, cb 0 26 2 (.agg [vn, vn])), (7, cb 0 26 2 (.agg [.sl 18 0 0 (s_Decl.F l4).length false, .sl 8301 0 0 (s_LStmt.F l13).length false])), (18, rb 0 s_Decl l4), (8301, rb 0 s_LStmt l13)], 1⟩ ?_
  refine WA_drawW hT hM (by kernel_rfl) ?_
  refine Ds 5 [(55, po s_string r2.2), (54, po s_Stmt x15), (53, vi i14), (52, .sl 8301 0 0 (s_LStmt.F l13).length false), (51, .box 7 0 0 1)] [] [(0, [7]), (1, [7]), (4, [4])] ?_
  obtain ⟨r16, hr16, h⟩ := bsome h
  refine Dp [po s_Stmt x15, po s_string r2.2] (.ps .fopt (s_Stmt.F r16)) en86 (erase_block_ok hr16) ?_
  obtain ⟨x17, hx17, h⟩ := bsome h
  refine Dl rfl (v_index_own s_LStmt 8301 0 false (rb 0 s_LStmt l13) l13 .i64 i14 hx17) ?_
  refine Dt (.box 8301 0 i14.toNat 0) ?_
  refine Dw rfl (v_storeRow s_LStmt 8301 0 (rb 0 s_LStmt l13) l13 i14.toNat 0 x17 r16 (idx_some hx17).2) ?_
  refine De ?_
  refine kW [4, 6, 7, 44, 45, 46] ⟨[(4, bx 4 0), (6, bx 6 0), (7, bx 7 0), (44, .sl 8301 0 0 (s_LStmt.F l13).length false), (45, vi (ln r1.Threads)), (46, vi i14)], [(8301, rb 0 s_LStmt (l13.set i14.toNat r16)), (4, cb 0 62 1 (po s_string r2.2)), (6, cb 0 26 2 (.agg [vn, vn])), (7, cb 0 26 2 (.agg [.sl 18 0 0 (s_Decl.F l4).length false, .sl 8301 0 0 (s_LStmt.F l13).length false])), (18, rb 0 s_Decl l4)], 1⟩ ?_
  refine Wk_step (wL [(4, bx 4 0), (6, bx 6 0), (7, bx 7 0), (44, .sl 8301 0 0 (s_LStmt.F (l13.set i14.toNat r16)).length false), (45, vi (ln r1.Threads)), (46, vi i14)] [(8301, rb 0 s_LStmt (l13.set i14.toNat r16)), (4, cb 0 62 1 (po s_string r2.2)), (6, cb 0 26 2 (.agg [vn, vn])), (7, cb 0 26 2 (.agg [.sl 18 0 0 (s_Decl.F l4).length false, .sl 8301 0 0 (s_LStmt.F (l13.set i14.toNat r16)).length false])), (18, rb 0 s_Decl l4)] ⟨VLf.refl _, VLf.refl _, VLf.refl _, (VLf.slen (by simp [TE.len, lcopy_length, rcopy_length, clr_length])), VLf.refl _, VLf.refl _, trivial⟩ ⟨rfl, .inl rfl, rfl, .inl rfl, rfl, .inl rfl, rfl, .inr (.inl ⟨rfl, rfl, CLe.agg ⟨VLf.refl _, (VLf.slen (by simp [TE.len, lcopy_length, rcopy_length, clr_length])), trivial⟩, trivial⟩), rfl, .inl rfl, trivial⟩) ?_
  refine Wk_done ?_
  refine Rgd hT 2 [4, 6, 7, 44, 45, 46] [(46, vi (wr (i14 + 1)))] ?_
  exact oK [4, 6, 7, 44, 45, 46] [(4, 4, 0), (6, 6, 0), (7, 7, 0), (18, 18, 0), (8301, 8301, 0)] ⟨_, by omega, by omega, l13.set i14.toNat r16, wr (i14 + 1), h, rfl⟩
 refine WA_exit ?_
 refine Qz hT 2 [6] ⟨[(6, bx 6 0)], [(6, cb 0 26 2 (.agg [.sl 18 0 0 (s_Decl.F l4).length false, .sl 8301 0 0 (s_LStmt.F l13).length false])), (4, cb 0 62 1 (po s_string r2.2)), (7, cb 0 26 2 (.agg [.sl 18 0 0 (s_Decl.F l4).length false, .sl 8301 0 0 (s_LStmt.F l13).length false])), (18, rb 0 s_Decl l4), (8301, rb 0 s_LStmt l13)], 1⟩ ?_
 refine aW [6] ⟨[(6, bx 6 0)], [(6, cb 0 26 2 (.agg [.sl 18 0 0 (s_Decl.F l4).length false, .sl 8301 0 0 (s_LStmt.F l13).length false])), (4, cb 0 62 1 (po s_string r2.2)), (7, cb 0 26 2 (.agg [.sl 18 0 0 (s_Decl.F l4).length false, .sl 8301 0 0 (s_LStmt.F l13).length false])), (18, rb 0 s_Decl l4), (8301, rb 0 s_LStmt l13)], 1⟩ ?_
 refine WA_weak (wF 18 0 (rb 0 s_Decl l4) [(6, bx 6 0)] [(6, cb 0 26 2 (.agg [po s_Decl l4, .sl 8301 0 0 (s_LStmt.F l13).length false])), (4, cb 0 62 1 (po s_string r2.2)), (7, cb 0 26 2 (.agg [po s_Decl l4, .sl 8301 0 0 (s_LStmt.F l13).length false])), (8301, rb 0 s_LStmt l13)] ⟨rfl, .keep _, trivial⟩ ⟨rfl, .inr ⟨rfl, rfl, .aggs ⟨.hit false, .keep _, trivial⟩, trivial⟩, rfl, .inl rfl, rfl, .inr ⟨rfl, rfl, .aggs ⟨.hit false, .keep _, trivial⟩, trivial⟩, rfl, .inl rfl, trivial⟩) ?_
 refine WA_weak (wF 8301 0 (rb 0 s_LStmt l13) [(6, bx 6 0)] [(6, cb 0 26 2 (.agg [po s_Decl l4, po s_LStmt l13])), (4, cb 0 62 1 (po s_string r2.2)), (7, cb 0 26 2 (.agg [po s_Decl l4, po s_LStmt l13]))] ⟨rfl, .keep _, trivial⟩ ⟨rfl, .inr ⟨rfl, rfl, .aggs ⟨.keep _, .hit false, trivial⟩, trivial⟩, rfl, .inl rfl, rfl, .inr ⟨rfl, rfl, .aggs ⟨.keep _, .hit false, trivial⟩, trivial⟩, trivial⟩) ?_
 refine WA_weak (wL [(6, bx 6 0)] [(6, cb 0 26 2 (eProg (Prog.mk l4 l13))), (4, cb 0 62 1 (po s_string r2.2)), (7, cb 0 26 2 (.agg [po s_Decl l4, po s_LStmt l13]))] ⟨VLf.refl _, trivial⟩ ⟨rfl, .inr (.inl ⟨rfl, rfl, CLe.agg ⟨VLf.refl _, VLf.refl _, trivial⟩, trivial⟩), rfl, .inl rfl, rfl, .inl rfl, trivial⟩) ?_
 obtain rfl := Option.some.inj h
 exact rR [(6, 1000, 0)] ⟨[(6, bx 1000 0)], [(1000, cb 0 26 2 (eProg (Prog.mk l4 l13)))], 1⟩ ⟨by kernel_rfl, rfl⟩
theorem ref1_SameDecls_ok {n : Nat} {a0 : List Decl} {a1 : List Decl} {r : Bool} (h : ref1_SameDecls n a0 a1 = some r) : PT Try.prog 79 [po s_Decl a0, po s_Decl a1] (vb r) := by
 unfold ref1_SameDecls at h
 refine PT_bodyA hT Try.func79 rfl (by kernel_rfl) fun bad w => ?_
 refine Qzd hT 1 [0, 1] [] ?_
 refine WA_seq ?_
 refine Qgd hT 1 [0, 1, 6] [(6, po s_Decl a0)] ?_
 refine One' hT rfl (v_len s_Decl .opt a0) ?_
 refine Sgd hT 1 [0, 1, 7, 8] [(7, vi (ln a0)), (8, po s_Decl a1)] ?_
 refine One' hT rfl (v_len s_Decl .opt a1) ?_
 refine Szd hT 1 [0, 1, 10] [(10, vb ((ln a0) != (ln a1)))] ?_
 refine Ci h (fun h => ?_) fun h => ?_
 ·refine Qz hT 1 [4] ⟨[(4, vb false)], [], 0⟩ ?_
  obtain rfl := Option.some.inj h
  exact rK [4] [] ⟨[(4, vb false)], [], 1⟩ ⟨by kernel_rfl, rfl⟩
 refine WA_skip ?_
 refine WA_seq ?_
 refine Qzd hT 1 [0, 1, 5] [(5, vi 0)] ?_
 refine WA_block ?_
 refine lK [0, 1, 5] [] (fun k s => ∃ q, q ≤ k ∧ q ≤ n ∧ ∃ (i1 : Int), ref1_SameDecls_L0 q a0 a1 i1 = some r ∧ s = ⟨[(0, po s_Decl a0), (1, po s_Decl a1), (5, vi i1)], [], 1⟩) n ⟨n, Nat.le_refl _, Nat.le_refl _, 0, h, rfl⟩ (by rintro s ⟨q, hq, _, i1, h, _⟩; obtain rfl := Nat.le_zero.1 hq; rw [ref1_SameDecls_L0] at h; cases h) ?_
 clear h
 rintro k1 s ⟨q1, hk1, hn1, i1, h, rfl⟩
 rcases q1 with _ | q1
 ·rw [ref1_SameDecls_L0] at h; cases h
 rw [ref1_SameDecls_L0] at h
 refine WA_seq ?_
 refine Qgd hT 2 [0, 1, 5, 11, 12] [(11, vi i1), (12, po s_Decl a0)] ?_
 refine One' hT rfl (v_len s_Decl .opt a0) ?_
 refine Szd hT 1 [0, 1, 5, 14] [(14, vb (decide (i1 < (ln a0))))] ?_
 refine Ci h (fun h => ?_) fun h => ?_
 ·refine WA_skip ?_
  refine WA_seq ?_
  refine WA_block ?_
  refine WA_seq ?_
  obtain ⟨J3, hJ3, h⟩ := jsome h
  refine WA_join (fun s => ∃ (b2 : Bool), J3 b2 = some r ∧ s = ⟨[(0, po s_Decl a0), (1, po s_Decl a1), (5, vi i1), (53, vb b2)], [], 1⟩) ?_ ?_
  ·refine WA_drawW hT hM (by kernel_rfl) ?_
   refine Ds 2 [(18, vi i1), (17, po s_Decl a0)] [] [] ?_
   obtain ⟨x4, hx4, h⟩ := bsome h
   refine Dl rfl (v_index s_Decl .opt a0 .i64 i1 hx4) ?_
   refine Dt (.ref (eDecl x4) 0) ?_
   refine Ds 4 [(23, vi i1), (22, po s_Decl a1), (21, vi x4.Kind), (20, .ref (eDecl x4) 0)] [] [] ?_
   obtain ⟨x5, hx5, h⟩ := bsome h
   refine Dl rfl (v_index s_Decl .opt a1 .i64 i1 hx5) ?_
   refine Dt (.ref (eDecl x5) 0) ?_
   refine Ds 4 [(28, vb (x4.Kind != x5.Kind)), (27, vb (x4.Kind != x5.Kind)), (26, vi x5.Kind), (25, .ref (eDecl x5) 0)] [] [] ?_
   cases hb : ((x4.Kind != x5.Kind) : Bool)
   ·replace h := cfalse hb h
    refine Ds 2 [(30, vi i1), (29, po s_Decl a0)] [] [] ?_
    obtain ⟨x6, hx6, h⟩ := bsome h
    refine Dl rfl (v_index s_Decl .opt a0 .i64 i1 hx6) ?_
    refine Dt (.ref (eDecl x6) 0) ?_
    refine Ds 4 [(35, vi i1), (34, po s_Decl a1), (33, vw x6.Name), (32, .ref (eDecl x6) 1)] [] [] ?_
    obtain ⟨x7, hx7, h⟩ := bsome h
    refine Dl rfl (v_index s_Decl .opt a1 .i64 i1 hx7) ?_
    refine Dt (.ref (eDecl x7) 0) ?_
    refine Ds 5 [(41, vb (!bytesEq x6.Name x7.Name)), (40, vb (!bytesEq x6.Name x7.Name)), (39, vb (!bytesEq x6.Name x7.Name)), (38, vw x7.Name), (37, .ref (eDecl x7) 1)] [] [] ?_
    cases hb : (!bytesEq x6.Name x7.Name : Bool)
    ·replace h := cfalse hb h
     refine Ds 2 [(43, vi i1), (42, po s_Decl a0)] [] [] ?_
     obtain ⟨x8, hx8, h⟩ := bsome h
     refine Dl rfl (v_index s_Decl .opt a0 .i64 i1 hx8) ?_
     refine Dt (.ref (eDecl x8) 0) ?_
     refine Ds 4 [(48, vi i1), (47, po s_Decl a1), (46, vi x8.N), (45, .ref (eDecl x8) 2)] [] [] ?_
     obtain ⟨x9, hx9, h⟩ := bsome h
     refine Dl rfl (v_index s_Decl .opt a1 .i64 i1 hx9) ?_
     refine Dt (.ref (eDecl x9) 0) ?_
     refine Ds 4 [(53, vb (x8.N != x9.N)), (52, vb (x8.N != x9.N)), (51, vi x9.N), (50, .ref (eDecl x9) 2)] [] [] ?_
     refine De ?_
     exact wK [0, 1, 5, 53] [] ⟨(x8.N != x9.N), h, rfl⟩
    replace h := ctrue hb h
    refine Ds 12 [(53, vb true), (52, vU), (51, vU), (50, vU), (49, vU), (48, vU), (47, vU), (46, vU), (45, vU), (44, vU), (43, vU), (42, vU)] [] [] ?_
    refine De ?_
    exact wK [0, 1, 5, 53] [] ⟨true, h, rfl⟩
   replace h := ctrue hb h
   refine Ds 25 [(53, vb true), (52, vU), (51, vU), (50, vU), (49, vU), (48, vU), (47, vU), (46, vU), (45, vU), (44, vU), (43, vU), (42, vU), (41, vb true), (40, vb true), (39, vU), (38, vU), (37, vU), (36, vU), (35, vU), (34, vU), (33, vU), (32, vU), (31, vU), (30, vU), (29, vU)] [] [] ?_
   refine De ?_
   exact wK [0, 1, 5, 53] [] ⟨true, h, rfl⟩
  subst hJ3
  rintro s ⟨b2, h, rfl⟩
  skip
  refine Ci h (fun h => ?_) fun h => ?_
  ·refine Qz hT 1 [4] ⟨[(4, vb false)], [], 1⟩ ?_
   obtain rfl := Option.some.inj h
   exact rK [4] [] ⟨[(4, vb false)], [], 1⟩ ⟨by kernel_rfl, rfl⟩
  refine WA_skip ?_
  refine Rgd hT 3 [0, 1, 5] [(5, vi (wr (i1 + 1)))] ?_
  exact oK [0, 1, 5] [] ⟨_, by omega, by omega, wr (i1 + 1), h, rfl⟩
 refine WA_exit ?_
 refine Qz hT 1 [4] ⟨[(4, vb true)], [], 1⟩ ?_
 obtain rfl := Option.some.inj h
 exact rK [4] [] ⟨[(4, vb true)], [], 1⟩ ⟨by kernel_rfl, rfl⟩
def ref1_SameExpr_spec (n : Nat) : Prop := (∀ {a0 : Expr} {a1 : Expr} {r : Bool}, ref1_SameExpr n a0 a1 = some r → PT Try.prog 122 [eExpr a0, eExpr a1] (vb r))
theorem ref1_SameExpr_step (n : Nat) (ih : ∀ m, m < n → ref1_SameExpr_spec m) : ∀ {a0 : Expr} {a1 : Expr} {r : Bool}, ref1_SameExpr n a0 a1 = some r → PT Try.prog 122 [eExpr a0, eExpr a1] (vb r) := by
 intro a0 a1 r h
 rcases n with _ | n
 ·rw [ref1_SameExpr] at h; cases h
 rw [ref1_SameExpr] at h
 refine PT_bodyA hT Try.func122 rfl (by kernel_rfl) fun bad w => ?_
 refine Qz hT 3 [2, 3] ⟨[(2, bx 2 0), (3, bx 3 1)], [(3, cb 1 35 4 (eExpr a1)), (2, cb 0 35 4 (eExpr a0))], 2⟩ ?_
 refine WA_seq ?_
 refine WA_seq ?_
 obtain ⟨J2, hJ2, h⟩ := jsome h
 refine WA_join (fun s => ∃ (b1 : Bool), J2 b1 = some r ∧ s = ⟨[(2, bx 2 0), (3, bx 3 0), (33, vb b1)], [(2, cb 0 35 4 (eExpr a0)), (3, cb 0 35 4 (eExpr a1))], 1⟩) ?_ ?_
 ·refine Rgd hT 6 [2, 3, 11] [(11, vb (a0.Kind != a1.Kind))] ?_
  cases hb : ((a0.Kind != a1.Kind) : Bool)
  ·replace h := cfalse hb h
   refine Sgd hT 7 [2, 3, 18] [(18, vb (a0.N != a1.N))] ?_
   cases hb : ((a0.N != a1.N) : Bool)
   ·replace h := cfalse hb h
    refine Sgd hT 7 [2, 3, 25] [(25, vb (!bytesEq a0.Name a1.Name))] ?_
    cases hb : (!bytesEq a0.Name a1.Name : Bool)
    ·replace h := cfalse hb h
     refine Sgd hT 2 [2, 3, 25, 27] [(27, po s_Expr a0.Of)] ?_
     refine One' hT rfl (v_len s_Expr .opt a0.Of) ?_
     refine Sgd hT 2 [2, 3, 25, 28, 30] [(28, vi (ln a0.Of)), (30, po s_Expr a1.Of)] ?_
     refine One' hT rfl (v_len s_Expr .opt a1.Of) ?_
     refine Sgd hT 2 [2, 3, 33] [(33, vb ((ln a0.Of) != (ln a1.Of)))] ?_
     exact oK [2, 3, 33] [(2, 2, 0), (3, 3, 0)] ⟨((ln a0.Of) != (ln a1.Of)), h, rfl⟩
    replace h := ctrue hb h
    refine Sgd hT 8 [2, 3, 33] [(33, vb true)] ?_
    exact oK [2, 3, 33] [(2, 2, 0), (3, 3, 0)] ⟨true, h, rfl⟩
   replace h := ctrue hb h
   refine Sgd hT 15 [2, 3, 33] [(33, vb true)] ?_
   exact oK [2, 3, 33] [(2, 2, 0), (3, 3, 0)] ⟨true, h, rfl⟩
  replace h := ctrue hb h
  refine Sg hT 22 [2, 3, 33] ⟨[(2, bx 2 0), (3, bx 3 1), (33, vb true)], [(3, cb 1 35 4 (eExpr a1)), (2, cb 0 35 4 (eExpr a0))], 2⟩ ?_
  exact oK [2, 3, 33] [(2, 2, 0), (3, 3, 0)] ⟨true, h, rfl⟩
 subst hJ2
 rintro s ⟨b1, h, rfl⟩
 refine Ci h (fun h => ?_) fun h => ?_
 ·refine Qzd hT 1 [4] [(4, vb false)] ?_
  obtain rfl := Option.some.inj h
  exact rK [4] [] ⟨[(4, vb false)], [], 1⟩ ⟨by kernel_rfl, rfl⟩
 refine WA_skip ?_
 refine WA_seq ?_
 refine Qzd hT 1 [2, 3, 5] [(5, vi 0)] ?_
 refine WA_block ?_
 refine lK [2, 3, 5] [(2, 2, 0), (3, 3, 0)] (fun k s => ∃ q, q ≤ k ∧ q ≤ n ∧ ∃ (i3 : Int), ref1_SameExpr_L0 q a0 a1 b1 i3 = some r ∧ s = ⟨[(2, bx 2 0), (3, bx 3 0), (5, vi i3)], [(2, cb 0 35 4 (eExpr a0)), (3, cb 0 35 4 (eExpr a1))], 1⟩) n ⟨n, Nat.le_refl _, Nat.le_refl _, 0, h, rfl⟩ (by rintro s ⟨q, hq, _, i3, h, _⟩; obtain rfl := Nat.le_zero.1 hq; rw [ref1_SameExpr_L0] at h; cases h) ?_
 clear h
 rintro k1 s ⟨q1, hk1, hn1, i3, h, rfl⟩
 rcases q1 with _ | q1
 ·rw [ref1_SameExpr_L0] at h; cases h
 rw [ref1_SameExpr_L0] at h
 refine WA_seq ?_
 refine Qgd hT 3 [2, 3, 5, 34, 36] [(34, vi i3), (36, po s_Expr a0.Of)] ?_
 refine One' hT rfl (v_len s_Expr .opt a0.Of) ?_
 refine Szd hT 1 [2, 3, 5, 38] [(38, vb (decide (i3 < (ln a0.Of))))] ?_
 refine Ci h (fun h => ?_) fun h => ?_
 ·refine WA_skip ?_
  refine WA_seq ?_
  refine WA_block ?_
  refine WA_seq ?_
  refine WA_drawW hT hM (by kernel_rfl) ?_
  refine Ds 3 [(43, vi i3), (42, po s_Expr a0.Of), (41, .box 2 0 0 3)] [] [(0, [2]), (1, [2])] ?_
  obtain ⟨x4, hx4, h⟩ := bsome h
  refine Dl rfl (v_index s_Expr .opt a0.Of .i64 i3 hx4) ?_
  refine Dt (.ref (eExpr x4) 0) ?_
  refine Ds 4 [(48, vi i3), (47, po s_Expr a1.Of), (46, .box 3 0 0 3), (45, eExpr x4)] [] [(5, [3]), (6, [3])] ?_
  obtain ⟨x5, hx5, h⟩ := bsome h
  refine Dl rfl (v_index s_Expr .opt a1.Of .i64 i3 hx5) ?_
  refine Dt (.ref (eExpr x5) 0) ?_
  refine Ds 1 [(50, eExpr x5)] [] [] ?_
  obtain ⟨r6, hr6, h⟩ := bsome h
  refine Dp [eExpr x4, eExpr x5] (vb r6) en122 ((ih _ (by omega)) hr6) ?_
  refine Ds 1 [(52, vb (!r6))] [] [] ?_
  refine De ?_
  refine Wk_done ?_
  refine Ci h (fun h => ?_) fun h => ?_
  ·refine Qzd hT 1 [4] [(4, vb false)] ?_
   obtain rfl := Option.some.inj h
   exact rK [4] [] ⟨[(4, vb false)], [], 1⟩ ⟨by kernel_rfl, rfl⟩
  refine WA_skip ?_
  refine Rgd hT 3 [2, 3, 5] [(5, vi (wr (i3 + 1)))] ?_
  exact oK [2, 3, 5] [(2, 2, 0), (3, 3, 0)] ⟨_, by omega, by omega, wr (i3 + 1), h, rfl⟩
 refine WA_exit ?_
 refine Qzd hT 1 [4] [(4, vb true)] ?_
 obtain rfl := Option.some.inj h
 exact rK [4] [] ⟨[(4, vb true)], [], 1⟩ ⟨by kernel_rfl, rfl⟩
theorem ref1_SameExpr_all (n : Nat) : ref1_SameExpr_spec n := by
 induction n using Nat.strongRecOn with
 | _ n ih => exact ref1_SameExpr_step n ih
theorem ref1_SameExpr_ok {n : Nat} {a0 : Expr} {a1 : Expr} {r : Bool} (h : ref1_SameExpr n a0 a1 = some r) : PT Try.prog 122 [eExpr a0, eExpr a1] (vb r) := (ref1_SameExpr_all n) h
def ref1_SameBlock_spec (n : Nat) : Prop := (∀ {a0 : List Stmt} {a1 : List Stmt} {r : Bool}, ref1_SameBlock n a0 a1 = some r → PT Try.prog 80 [po s_Stmt a0, po s_Stmt a1] (vb r))
theorem ref1_SameBlock_step (n : Nat) (ih : ∀ m, m < n → ref1_SameBlock_spec m) : ∀ {a0 : List Stmt} {a1 : List Stmt} {r : Bool}, ref1_SameBlock n a0 a1 = some r → PT Try.prog 80 [po s_Stmt a0, po s_Stmt a1] (vb r) := by
 intro a0 a1 r h
 rcases n with _ | n
 ·rw [ref1_SameBlock] at h; cases h
 rw [ref1_SameBlock] at h
 refine PT_bodyA hT Try.func80 rfl (by kernel_rfl) fun bad w => ?_
 refine Qzd hT 1 [0, 1] [] ?_
 refine WA_seq ?_
 refine Qgd hT 1 [0, 1, 8] [(8, po s_Stmt a0)] ?_
 refine One' hT rfl (v_len s_Stmt .opt a0) ?_
 refine Sgd hT 1 [0, 1, 9, 10] [(9, vi (ln a0)), (10, po s_Stmt a1)] ?_
 refine One' hT rfl (v_len s_Stmt .opt a1) ?_
 refine Szd hT 1 [0, 1, 12] [(12, vb ((ln a0) != (ln a1)))] ?_
 refine Ci h (fun h => ?_) fun h => ?_
 ·refine Qz hT 1 [4] ⟨[(4, vb false)], [], 0⟩ ?_
  obtain rfl := Option.some.inj h
  exact rK [4] [] ⟨[(4, vb false)], [], 1⟩ ⟨by kernel_rfl, rfl⟩
 refine WA_skip ?_
 refine WA_seq ?_
 refine Qzd hT 1 [0, 1, 5] [(5, vi 0)] ?_
 refine WA_block ?_
 refine lK [0, 1, 5] [] (fun k s => ∃ q, q ≤ k ∧ q ≤ n ∧ ∃ (i1 : Int), ref1_SameBlock_L0 q a0 a1 i1 = some r ∧ s = ⟨[(0, po s_Stmt a0), (1, po s_Stmt a1), (5, vi i1)], [], 1⟩) n ⟨n, Nat.le_refl _, Nat.le_refl _, 0, h, rfl⟩ (by rintro s ⟨q, hq, _, i1, h, _⟩; obtain rfl := Nat.le_zero.1 hq; rw [ref1_SameBlock_L0] at h; cases h) ?_
 clear h
 rintro k1 s ⟨q1, hk1, hn1, i1, h, rfl⟩
 rcases q1 with _ | q1
 ·rw [ref1_SameBlock_L0] at h; cases h
 rw [ref1_SameBlock_L0] at h
 refine WA_seq ?_
 refine Qgd hT 2 [0, 1, 5, 13, 14] [(13, vi i1), (14, po s_Stmt a0)] ?_
 refine One' hT rfl (v_len s_Stmt .opt a0) ?_
 refine Szd hT 1 [0, 1, 5, 16] [(16, vb (decide (i1 < (ln a0))))] ?_
 refine Ci h (fun h => ?_) fun h => ?_
 ·refine WA_skip ?_
  refine WA_seq ?_
  refine WA_block ?_
  refine Qgd hT 2 [0, 1, 5, 19, 20] [(19, po s_Stmt a0), (20, vi i1)] ?_
  obtain ⟨x2, hx2, h⟩ := bsome h
  refine One' hT rfl (v_index s_Stmt .opt a0 .i64 i1 hx2) ?_
  refine Szh hT 3 [0, 1, 5, 6] [(6, bx 6 1)] [(6, cb 1 38 11 (eStmt x2))] 2 ?_
  refine Qgd hT 2 [0, 1, 5, 6, 23, 24] [(23, po s_Stmt a1), (24, vi i1)] ?_
  obtain ⟨x3, hx3, h⟩ := bsome h
  refine One' hT rfl (v_index s_Stmt .opt a1 .i64 i1 hx3) ?_
  refine Szh hT 3 [0, 1, 5, 6, 7] [(7, bx 7 2)] [(7, cb 2 38 11 (eStmt x3)), (6, cb 1 38 11 (eStmt x2))] 3 ?_
  refine WA_seq ?_
  obtain ⟨J5, hJ5, h⟩ := jsome h
  refine WA_join (fun s => ∃ (b4 : Bool), J5 b4 = some r ∧ s = ⟨[(0, po s_Stmt a0), (1, po s_Stmt a1), (5, vi i1), (76, vb b4)], [], 1⟩) ?_ ?_
  ·refine Rgd hT 6 [0, 1, 5, 6, 7, 32] [(32, vb (x2.Kind != x3.Kind))] ?_
   cases hb : ((x2.Kind != x3.Kind) : Bool)
   ·replace h := cfalse hb h
    refine Sgd hT 7 [0, 1, 5, 6, 7, 39] [(39, vb (!bytesEq x2.Name x3.Name))] ?_
    cases hb : (!bytesEq x2.Name x3.Name : Bool)
    ·replace h := cfalse hb h
     refine Sgd hT 7 [0, 1, 5, 6, 7, 46] [(46, vb (!bytesEq x2.Other x3.Other))] ?_
     cases hb : (!bytesEq x2.Other x3.Other : Bool)
     ·replace h := cfalse hb h
      refine Sg hT 7 [0, 1, 5, 6, 7, 53] ⟨[(0, po s_Stmt a0), (1, po s_Stmt a1), (5, vi i1), (6, bx 6 1), (7, bx 7 2), (53, vb (x2.N != x3.N))], [(7, cb 2 38 11 (eStmt x3)), (6, cb 1 38 11 (eStmt x2))], 3⟩ ?_
      cases hb : ((x2.N != x3.N) : Bool)
      ·replace h := cfalse hb h
       refine Sgd hT 4 [0, 1, 5, 6, 7, 53, 55, 57] [(55, eExpr x2.E), (57, eExpr x3.E)] ?_
       obtain ⟨r6, hr6, h⟩ := bsome h
       refine Pt' en122 (ref1_SameExpr_ok hr6) ?_
       refine Sgd hT 3 [0, 1, 5, 6, 7, 61] [(61, vb (!r6))] ?_
       cases hb : (!r6 : Bool)
       ·replace h := cfalse hb h
        refine Sgd hT 4 [0, 1, 5, 6, 7, 61, 63, 65] [(63, po s_Stmt x2.Body), (65, po s_Stmt x3.Body)] ?_
        obtain ⟨r7, hr7, h⟩ := bsome h
        refine Pt' en80 ((ih _ (by omega)) hr7) ?_
        refine Sgd hT 3 [0, 1, 5, 6, 7, 69] [(69, vb (!r7))] ?_
        cases hb : (!r7 : Bool)
        ·replace h := cfalse hb h
         refine Sgd hT 4 [0, 1, 5, 69, 71, 73] [(71, po s_Stmt x2.Else), (73, po s_Stmt x3.Else)] ?_
         obtain ⟨r8, hr8, h⟩ := bsome h
         refine Pt' en80 ((ih _ (by omega)) hr8) ?_
         refine Sgd hT 2 [0, 1, 5, 76] [(76, vb (!r8))] ?_
         exact oK [0, 1, 5, 76] [] ⟨!r8, h, rfl⟩
        replace h := ctrue hb h
        refine Sgd hT 7 [0, 1, 5, 76] [(76, vb true)] ?_
        exact oK [0, 1, 5, 76] [] ⟨true, h, rfl⟩
       replace h := ctrue hb h
       refine Sgd hT 15 [0, 1, 5, 76] [(76, vb true)] ?_
       exact oK [0, 1, 5, 76] [] ⟨true, h, rfl⟩
      replace h := ctrue hb h
      refine Sg hT 23 [0, 1, 5, 76] ⟨[(0, po s_Stmt a0), (1, po s_Stmt a1), (5, vi i1), (76, vb true)], [(7, cb 2 38 11 (eStmt x3)), (6, cb 1 38 11 (eStmt x2))], 3⟩ ?_
      exact oK [0, 1, 5, 76] [] ⟨true, h, rfl⟩
     replace h := ctrue hb h
     refine Sgd hT 30 [0, 1, 5, 76] [(76, vb true)] ?_
     exact oK [0, 1, 5, 76] [] ⟨true, h, rfl⟩
    replace h := ctrue hb h
    refine Sgd hT 37 [0, 1, 5, 76] [(76, vb true)] ?_
    exact oK [0, 1, 5, 76] [] ⟨true, h, rfl⟩
   replace h := ctrue hb h
   refine Sgd hT 44 [0, 1, 5, 76] [(76, vb true)] ?_
   exact oK [0, 1, 5, 76] [] ⟨true, h, rfl⟩
  subst hJ5
  rintro s ⟨b4, h, rfl⟩
  skip
  refine Ci h (fun h => ?_) fun h => ?_
  ·refine Qz hT 1 [4] ⟨[(4, vb false)], [], 1⟩ ?_
   obtain rfl := Option.some.inj h
   exact rK [4] [] ⟨[(4, vb false)], [], 1⟩ ⟨by kernel_rfl, rfl⟩
  refine WA_skip ?_
  refine Rgd hT 3 [0, 1, 5] [(5, vi (wr (i1 + 1)))] ?_
  exact oK [0, 1, 5] [] ⟨_, by omega, by omega, wr (i1 + 1), h, rfl⟩
 refine WA_exit ?_
 refine Qz hT 1 [4] ⟨[(4, vb true)], [], 1⟩ ?_
 obtain rfl := Option.some.inj h
 exact rK [4] [] ⟨[(4, vb true)], [], 1⟩ ⟨by kernel_rfl, rfl⟩
theorem ref1_SameBlock_all (n : Nat) : ref1_SameBlock_spec n := by
 induction n using Nat.strongRecOn with
 | _ n ih => exact ref1_SameBlock_step n ih
theorem ref1_SameBlock_ok {n : Nat} {a0 : List Stmt} {a1 : List Stmt} {r : Bool} (h : ref1_SameBlock n a0 a1 = some r) : PT Try.prog 80 [po s_Stmt a0, po s_Stmt a1] (vb r) := (ref1_SameBlock_all n) h
theorem ref1_Same_ok {n : Nat} {a0 : Prog} {a1 : Prog} {r : Bool} (h : ref1_Same n a0 a1 = some r) : PT Try.prog 40 [eProg a0, eProg a1] (vb r) := by
 unfold ref1_Same at h
 refine PT_bodyA hT Try.func40 rfl (by kernel_rfl) fun bad w => ?_
 refine Qz hT 3 [2, 3] ⟨[(2, bx 2 0), (3, bx 3 1)], [(3, cb 1 26 2 (eProg a1)), (2, cb 0 26 2 (eProg a0))], 2⟩ ?_
 refine WA_seq ?_
 refine WA_seq ?_
 obtain ⟨J2, hJ2, h⟩ := jsome h
 refine WA_join (fun s => ∃ (b1 : Bool), J2 b1 = some r ∧ s = ⟨[(2, bx 2 0), (3, bx 3 0), (20, vb b1)], [(2, cb 0 26 2 (eProg a0)), (3, cb 0 26 2 (eProg a1))], 1⟩) ?_ ?_
 ·refine Rgd hT 4 [2, 3, 7, 9] [(7, po s_Decl a0.Decls), (9, po s_Decl a1.Decls)] ?_
  obtain ⟨r3, hr3, h⟩ := bsome h
  refine Pt' en79 (ref1_SameDecls_ok hr3) ?_
  refine Sgd hT 2 [2, 3, 12] [(12, vb (!r3))] ?_
  cases hb : (!r3 : Bool)
  ·replace h := cfalse hb h
   refine Sg hT 2 [2, 3, 12, 14] ⟨[(2, bx 2 0), (3, bx 3 1), (12, vb false), (14, po s_LStmt a0.Threads)], [(3, cb 1 26 2 (eProg a1)), (2, cb 0 26 2 (eProg a0))], 2⟩ ?_
   refine One' hT rfl (v_len s_LStmt .opt a0.Threads) ?_
   refine Sgd hT 2 [2, 3, 12, 15, 17] [(15, vi (ln a0.Threads)), (17, po s_LStmt a1.Threads)] ?_
   refine One' hT rfl (v_len s_LStmt .opt a1.Threads) ?_
   refine Sgd hT 2 [2, 3, 20] [(20, vb ((ln a0.Threads) != (ln a1.Threads)))] ?_
   exact oK [2, 3, 20] [(2, 2, 0), (3, 3, 0)] ⟨((ln a0.Threads) != (ln a1.Threads)), h, rfl⟩
  replace h := ctrue hb h
  refine Sgd hT 8 [2, 3, 20] [(20, vb true)] ?_
  exact oK [2, 3, 20] [(2, 2, 0), (3, 3, 0)] ⟨true, h, rfl⟩
 subst hJ2
 rintro s ⟨b1, h, rfl⟩
 refine Ci h (fun h => ?_) fun h => ?_
 ·refine Qzd hT 1 [4] [(4, vb false)] ?_
  obtain rfl := Option.some.inj h
  exact rK [4] [] ⟨[(4, vb false)], [], 1⟩ ⟨by kernel_rfl, rfl⟩
 refine WA_skip ?_
 refine WA_seq ?_
 refine Qzd hT 1 [2, 3, 5] [(5, vi 0)] ?_
 refine WA_block ?_
 refine lK [2, 3, 5] [(2, 2, 0), (3, 3, 0)] (fun k s => ∃ q, q ≤ k ∧ q ≤ n ∧ ∃ (i4 : Int), ref1_Same_L0 q a0 a1 b1 i4 = some r ∧ s = ⟨[(2, bx 2 0), (3, bx 3 0), (5, vi i4)], [(2, cb 0 26 2 (eProg a0)), (3, cb 0 26 2 (eProg a1))], 1⟩) n ⟨n, Nat.le_refl _, Nat.le_refl _, 0, h, rfl⟩ (by rintro s ⟨q, hq, _, i4, h, _⟩; obtain rfl := Nat.le_zero.1 hq; rw [ref1_Same_L0] at h; cases h) ?_
 clear h
 rintro k1 s ⟨q1, hk1, hn1, i4, h, rfl⟩
 rcases q1 with _ | q1
 ·rw [ref1_Same_L0] at h; cases h
 rw [ref1_Same_L0] at h
 refine WA_seq ?_
 refine Qgd hT 3 [2, 3, 5, 21, 23] [(21, vi i4), (23, po s_LStmt a0.Threads)] ?_
 refine One' hT rfl (v_len s_LStmt .opt a0.Threads) ?_
 refine Szd hT 1 [2, 3, 5, 25] [(25, vb (decide (i4 < (ln a0.Threads))))] ?_
 refine Ci h (fun h => ?_) fun h => ?_
 ·refine WA_skip ?_
  refine WA_seq ?_
  refine WA_block ?_
  refine WA_seq ?_
  refine WA_drawW hT hM (by kernel_rfl) ?_
  refine Ds 3 [(30, vi i4), (29, po s_LStmt a0.Threads), (28, .box 2 0 0 1)] [] [(0, [2]), (1, [2])] ?_
  obtain ⟨x5, hx5, h⟩ := bsome h
  refine Dl rfl (v_index s_LStmt .opt a0.Threads .i64 i4 hx5) ?_
  refine Dt (.ref (el_Stmt x5) 0) ?_
  refine Ds 4 [(35, vi i4), (34, po s_LStmt a1.Threads), (33, .box 3 0 0 1), (32, po s_Stmt x5)] [] [(5, [3]), (6, [3])] ?_
  obtain ⟨x6, hx6, h⟩ := bsome h
  refine Dl rfl (v_index s_LStmt .opt a1.Threads .i64 i4 hx6) ?_
  refine Dt (.ref (el_Stmt x6) 0) ?_
  refine Ds 1 [(37, po s_Stmt x6)] [] [] ?_
  obtain ⟨r7, hr7, h⟩ := bsome h
  refine Dp [po s_Stmt x5, po s_Stmt x6] (vb r7) en80 (ref1_SameBlock_ok hr7) ?_
  refine Ds 1 [(39, vb (!r7))] [] [] ?_
  refine De ?_
  refine Wk_done ?_
  refine Ci h (fun h => ?_) fun h => ?_
  ·refine Qzd hT 1 [4] [(4, vb false)] ?_
   obtain rfl := Option.some.inj h
   exact rK [4] [] ⟨[(4, vb false)], [], 1⟩ ⟨by kernel_rfl, rfl⟩
  refine WA_skip ?_
  refine Rgd hT 3 [2, 3, 5] [(5, vi (wr (i4 + 1)))] ?_
  exact oK [2, 3, 5] [(2, 2, 0), (3, 3, 0)] ⟨_, by omega, by omega, wr (i4 + 1), h, rfl⟩
 refine WA_exit ?_
 refine Qz hT 1 [4] ⟨[(4, vb true)], [(2, cb 0 26 2 (eProg a0)), (3, cb 0 26 2 (eProg a1))], 1⟩ ?_
 obtain rfl := Option.some.inj h
 exact rK [4] [] ⟨[(4, vb true)], [], 1⟩ ⟨by kernel_rfl, rfl⟩
theorem law27_known_ok {n : Nat} {r : Bool} (h : law27_known n = some r) : PT Try.prog 39 [] (vb r) := by
 unfold law27_known at h
 refine PT_bodyA hT Try.func39 rfl (by kernel_rfl) fun bad w => ?_
 refine Qz hT 1 [] ⟨[], [], 0⟩ ?_
 refine WA_seq ?_
 refine WA_region ?_
 obtain ⟨r1, hr1, h⟩ := bsome h
 refine Pt' en37 (law27_read_ok hr1) ?_
 refine Sg hT 1 [2, 3] ⟨[(2, eProg r1), (3, vs 3 0 s_string [x_66697830])], [(3, ⟨0, 9, 1, false, false, s_string.F [x_66697830]⟩)], 1⟩ ?_
 refine WO_weak (wF 3 0 ⟨0, 9, 1, false, false, s_string.F [x_66697830]⟩ [(2, eProg r1), (3, po s_string [x_66697830])] [] ⟨rfl, .keep _, rfl, .hit true, trivial⟩ trivial) ?_
 obtain ⟨r2, hr2, h⟩ := bsome h
 refine Pt' (vs := [eProg r1, po s_string [x_66697830], vn]) en41 (PT_args ((erase_Of_ok hr2)) ⟨VLe.refl _, VLe.refl _, VLe.nil_opt, trivial⟩) ?_
 refine Sz hT 2 [1] ⟨[(1, bx 1 1)], [(1, cb 1 26 2 (eProg r2))], 2⟩ ?_
 refine WA_seq ?_
 refine WA_drawW hT hM (by kernel_rfl) ?_
 refine Ds 1 [(5, eProg r2)] [] [(0, [1])] ?_
 obtain ⟨r3, hr3, h⟩ := bsome h
 refine Dp [vw tx61] (eProg r3) en37 (law27_read_ok hr3) ?_
 obtain ⟨r4, hr4, h⟩ := bsome h
 refine Dp [eProg r2, eProg r3] (vb r4) en40 (ref1_Same_ok hr4) ?_
 refine Ds 1 [(0, vb r4)] [] [] ?_
 refine De ?_
 refine Wk_done ?_
 obtain rfl := Option.some.inj h
 exact rK [0] [] ⟨[(0, vb r4)], [], 1⟩ ⟨by kernel_rfl, rfl⟩
theorem law27_EraseTwice_ok {n : Nat} {a0 : Int} {a1 : List Act} {a2 : List Act} {a3 : List Act} {a4 : Int} {r : Bool} (h : law27_EraseTwice n a0 a1 a2 a3 a4 = some r) : PT Try.prog 11 [vi a0, po s_Act a1, po s_Act a2, po s_Act a3, vi a4] (vb r) := by
 unfold law27_EraseTwice at h
 refine PT_bodyA hT Try.func11 rfl (by kernel_rfl) fun bad w => ?_
 refine Qzd hT 1 [0, 1, 2, 3, 4] [] ?_
 refine Qg hT 4 [4, 19, 20, 21, 22] ⟨[(4, vi a4), (19, vi a0), (20, po s_Act a1), (21, po s_Act a2), (22, po s_Act a3)], [], 0⟩ ?_
 obtain ⟨r1, hr1, h⟩ := bsome h
 refine Pt' en38 (hand_Good_ok hr1) ?_
 refine Sg hT 0 [4, 23] ⟨[(4, vi a4), (23, vw r1)], [], 0⟩ ?_
 obtain ⟨r2, hr2, h⟩ := bsome h
 refine Pt' en37 (law27_read_ok hr2) ?_
 refine Sz hT 2 [4, 11] ⟨[(4, vi a4), (11, bx 11 0)], [(11, cb 0 26 2 (eProg r2))], 1⟩ ?_
 refine Qzd hT 1 [4, 11, 12] [(12, vn)] ?_
 refine WA_seq ?_
 refine Qzd hT 2 [4, 11, 12, 25, 26] [(25, .agg [vw k_m, vw k_x, vw k_l, vw x_66697830]), (26, vi 0)] ?_
 refine WA_block ?_
 refine aW [4, 11, 12, 25, 26] ⟨[(4, vi a4), (11, bx 11 0), (12, vn), (25, .agg [vw k_m, vw k_x, vw k_l, vw x_66697830]), (26, vi 0)], [(11, cb 0 26 2 (eProg r2))], 1⟩ ?_
 refine WA_weak (wO 12 5000 9 1) ?_
 refine lK [4, 11, 12, 25, 26] [(11, 11, 0), (5000, 10012, 0)] (fun k s => ∃ q, q ≤ k ∧ q ≤ n ∧ ∃ (l3 : List ByteArray), ∃ (i4 : Int), law27_EraseTwice_L0 q a0 a1 a2 a3 a4 r1 r2 l3 i4 = some r ∧ s = ⟨[(4, vi a4), (11, bx 11 0), (12, vs 10012 0 s_string l3), (25, .agg [vw k_m, vw k_x, vw k_l, vw x_66697830]), (26, vi i4)], [(11, cb 0 26 2 (eProg r2)), (10012, rb 0 s_string l3)], 1⟩) n ⟨n, Nat.le_refl _, Nat.le_refl _, ([] : List ByteArray), 0, h, rfl⟩ (by rintro s ⟨q, hq, _, l3, i4, h, _⟩; obtain rfl := Nat.le_zero.1 hq; rw [law27_EraseTwice_L0] at h; cases h) ?_
 clear h
 rintro k1 s ⟨q1, hk1, hn1, l3, i4, h, rfl⟩
 rcases q1 with _ | q1
 ·rw [law27_EraseTwice_L0] at h; cases h
 rw [law27_EraseTwice_L0] at h
 refine Qzd hT 1 [4, 11, 12, 25, 26, 27] [(27, vb (decide (i4 < 4)))] ?_
 refine WA_seq ?_
 refine Ci h (fun h => ?_) fun h => ?_
 ·refine WA_skip ?_
  refine WA_seq ?_
  obtain ⟨J6, hJ6, h⟩ := jsome h
  refine WA_join (fun s => ∃ (l5 : List ByteArray), J6 l5 = some r ∧ s = ⟨[(4, vi a4), (11, bx 11 0), (12, vs 10012 0 s_string l5), (25, .agg [vw k_m, vw k_x, vw k_l, vw x_66697830]), (26, vi i4)], [(11, cb 0 26 2 (eProg r2)), (10012, rb 0 s_string l5)], 1⟩) ?_ ?_
  ·refine WA_block ?_
   refine Qgd hT 1 [4, 11, 12, 25, 26, 28] [(28, vi i4)] ?_
   obtain ⟨x7, hx7, h⟩ := bsome h
   refine One' hT rfl (v_indexA e_s [k_m, k_x, k_l, x_66697830] .i64 i4 _ _ 9 hx7) ?_
   refine Szd hT 2 [4, 11, 12, 13, 14, 25, 26] [(13, vi i4), (14, vw x7)] ?_
   refine Qgd hT 1 [4, 11, 12, 13, 14, 25, 26, 30] [(30, vi a4)] ?_
   obtain ⟨r8, hr8, h⟩ := bsome h
   refine Pt' en17 (hand_Pick_ok hr8) ?_
   refine Sgd hT 2 [4, 11, 12, 14, 25, 26, 31, 33] [(31, vi r8), (33, .p (.int .u64 (IntKind.u64.wrap i4)))] ?_
   obtain ⟨x9, hx9, h⟩ := bsome h
   refine One' hT rfl (ev_shl .i64 .u64 1 (IntKind.u64.wrap i4) hx9 (by kernel_rfl) (by kernel_rfl)) ?_
   refine Sgd hT 0 [4, 11, 12, 14, 25, 26, 31, 34] [(34, vi x9)] ?_
   obtain ⟨g10, h⟩ := g0some h
   refine One' hT rfl (ev_quo .i64 r8 x9 g10 (by kernel_rfl) (by kernel_rfl)) ?_
   refine Szd hT 2 [4, 11, 12, 14, 25, 26, 37] [(37, vb (((wr (r8.tdiv x9)).tmod 2) == 1))] ?_
   refine Ci h (fun h => ?_) fun h => ?_
   ·refine Rgh hT 3 [4, 11, 25, 26, 38, 40] [(38, vs 10012 0 s_string l3), (40, vs 40 1 s_string [x7])] [(40, ⟨1, 9, 1, false, false, s_string.F [x7]⟩), (11, cb 0 26 2 (eProg r2)), (10012, rb 0 s_string l3)] 2 ?_
    obtain ⟨g11, h⟩ := gsome h
    refine Oa hT s_string 10012 0 true l3 [x7] (eO s_string 40 1 true ⟨1, 9, 1, false, false, s_string.F [x7]⟩ [x7]) g11 ?_
    refine Sgh hT 1 [4, 11, 12, 25, 26] [(12, vs 41 2 s_string (l3 ++ [x7]))] [(41, rb 2 s_string (l3 ++ [x7])), (40, ⟨1, 9, 1, false, false, s_string.F [x7]⟩), (11, cb 0 26 2 (eProg r2))] 3 ?_
    exact oK [4, 11, 12, 25, 26] [(11, 11, 0), (41, 10012, 0)] ⟨l3 ++ [x7], h, rfl⟩
   exact sK [4, 11, 12, 25, 26] [(11, 11, 0), (10012, 10012, 0)] ⟨l3, h, rfl⟩
  subst hJ6
  rintro s ⟨l5, h, rfl⟩
  skip
  refine Rg hT 2 [4, 11, 12, 25, 26] ⟨[(4, vi a4), (11, bx 11 0), (12, vs 10012 0 s_string l5), (25, .agg [vw k_m, vw k_x, vw k_l, vw x_66697830]), (26, vi (wr (i4 + 1)))], [(11, cb 0 26 2 (eProg r2)), (10012, rb 0 s_string l5)], 1⟩ ?_
  exact oK [4, 11, 12, 25, 26] [(11, 11, 0), (10012, 10012, 0)] ⟨_, by omega, by omega, l5, wr (i4 + 1), h, rfl⟩
 refine WA_exit ?_
 refine Qgh hT 3 [11, 12, 43, 44, 45] [(43, eProg r2), (44, vs 10012 0 s_string l3), (45, vs 45 1 s_string [k_a])] [(45, ⟨1, 9, 1, false, false, s_string.F [k_a]⟩), (11, cb 0 26 2 (eProg r2)), (10012, rb 0 s_string l3)] 2 ?_
 refine WO_weak (wF 10012 0 (rb 0 s_string l3) [(11, bx 11 0), (12, po s_string l3), (43, eProg r2), (44, po s_string l3), (45, vs 45 1 s_string [k_a])] [(45, ⟨1, 9, 1, false, false, s_string.F [k_a]⟩), (11, cb 0 26 2 (eProg r2))] ⟨rfl, .keep _, rfl, .hit true, rfl, .keep _, rfl, .hit true, rfl, .keep _, trivial⟩ ⟨rfl, .inl rfl, rfl, .inl rfl, trivial⟩) ?_
 refine WO_weak (wF 45 1 ⟨1, 9, 1, false, false, s_string.F [k_a]⟩ [(11, bx 11 0), (12, po s_string l3), (43, eProg r2), (44, po s_string l3), (45, po s_string [k_a])] [(11, cb 0 26 2 (eProg r2))] ⟨rfl, .keep _, rfl, .keep _, rfl, .keep _, rfl, .keep _, rfl, .hit true, trivial⟩ ⟨rfl, .inl rfl, trivial⟩) ?_
 obtain ⟨r12, hr12, h⟩ := bsome h
 refine Pt' en41 (erase_Of_ok hr12) ?_
 refine Szh hT 2 [11, 12, 15] [(15, bx 15 2)] [(15, cb 2 26 2 (eProg r12)), (11, cb 0 26 2 (eProg r2))] 3 ?_
 refine Qzh hT 3 [11, 12, 15, 16] [(16, bx 16 3)] [(16, cb 3 26 2 (eProg r2)), (15, cb 2 26 2 (eProg r12)), (11, cb 0 26 2 (eProg r2))] 4 ?_
 refine WA_seq ?_
 refine Qgd hT 1 [11, 12, 15, 16, 48] [(48, po s_string l3)] ?_
 refine One' hT rfl (v_len s_string .opt l3) ?_
 refine Szd hT 1 [11, 12, 15, 16, 48, 49, 50] [(49, vi (ln l3)), (50, vi 0)] ?_
 refine WA_block ?_
 refine lK [11, 12, 15, 16, 48, 49, 50] [(11, 11, 0), (15, 15, 0), (16, 16, 0)] (fun k s => ∃ q, q ≤ k ∧ q ≤ q1 ∧ ∃ (v13 : Prog), ∃ (i14 : Int), law27_EraseTwice_L1 q a0 a1 a2 a3 a4 r1 r2 l3 i4 r12 v13 i14 = some r ∧ s = ⟨[(11, bx 11 0), (12, po s_string l3), (15, bx 15 0), (16, bx 16 0), (48, po s_string l3), (49, vi (ln l3)), (50, vi i14)], [(11, cb 0 26 2 (eProg r2)), (15, cb 0 26 2 (eProg r12)), (16, cb 0 26 2 (eProg v13))], 1⟩) q1 ⟨q1, Nat.le_refl _, Nat.le_refl _, r2, 0, h, rfl⟩ (by rintro s ⟨q, hq, _, v13, i14, h, _⟩; obtain rfl := Nat.le_zero.1 hq; rw [law27_EraseTwice_L1] at h; cases h) ?_
 clear h
 rintro k2 s ⟨q2, hk2, hn2, v13, i14, h, rfl⟩
 rcases q2 with _ | q2
 ·rw [law27_EraseTwice_L1] at h; cases h
 rw [law27_EraseTwice_L1] at h
 refine Qz hT 1 [11, 12, 15, 16, 48, 49, 50, 51] ⟨[(11, bx 11 0), (12, po s_string l3), (15, bx 15 0), (16, bx 16 0), (48, po s_string l3), (49, vi (ln l3)), (50, vi i14), (51, vb (decide (i14 < (ln l3))))], [(11, cb 0 26 2 (eProg r2)), (15, cb 0 26 2 (eProg r12)), (16, cb 0 26 2 (eProg v13))], 1⟩ ?_
 refine WA_seq ?_
 refine Ci h (fun h => ?_) fun h => ?_
 ·refine WA_skip ?_
  refine WA_seq ?_
  refine WA_block ?_
  refine Qgd hT 0 [11, 12, 15, 16, 48, 49, 50] [] ?_
  obtain ⟨x15, hx15, h⟩ := bsome h
  refine One' hT rfl (v_index s_string .opt l3 .i64 i14 hx15) ?_
  refine Szd hT 2 [11, 12, 15, 16, 18, 48, 49, 50] [(18, vw x15)] ?_
  refine Rgh hT 3 [11, 12, 15, 16, 48, 49, 50, 54, 56] [(54, eProg v13), (56, vs 56 1 s_string [x15])] [(56, ⟨1, 9, 1, false, false, s_string.F [x15]⟩), (11, cb 0 26 2 (eProg r2)), (15, cb 0 26 2 (eProg r12)), (16, cb 0 26 2 (eProg v13))] 2 ?_
  refine WO_weak (wF 56 1 ⟨1, 9, 1, false, false, s_string.F [x15]⟩ [(11, bx 11 0), (12, po s_string l3), (15, bx 15 0), (16, bx 16 0), (48, po s_string l3), (49, vi (ln l3)), (50, vi i14), (54, eProg v13), (56, po s_string [x15])] [(11, cb 0 26 2 (eProg r2)), (15, cb 0 26 2 (eProg r12)), (16, cb 0 26 2 (eProg v13))] ⟨rfl, .keep _, rfl, .keep _, rfl, .keep _, rfl, .keep _, rfl, .keep _, rfl, .keep _, rfl, .keep _, rfl, .keep _, rfl, .hit true, trivial⟩ ⟨rfl, .inl rfl, rfl, .inl rfl, rfl, .inl rfl, trivial⟩) ?_
  obtain ⟨r16, hr16, h⟩ := bsome h
  refine Pt' (vs := [eProg v13, po s_string [x15], vn]) en41 (PT_args ((erase_Of_ok hr16)) ⟨VLe.refl _, VLe.refl _, VLe.nil_opt, trivial⟩) ?_
  refine Szh hT 1 [11, 12, 15, 16, 48, 49, 50] [] [(16, cb 0 26 2 (eProg r16)), (11, cb 0 26 2 (eProg r2)), (15, cb 0 26 2 (eProg r12))] 2 ?_
  refine Rgd hT 2 [11, 12, 15, 16, 48, 49, 50] [(50, vi (wr (i14 + 1)))] ?_
  exact oK [11, 12, 15, 16, 48, 49, 50] [(11, 11, 0), (15, 15, 0), (16, 16, 0)] ⟨_, by omega, by omega, r16, wr (i14 + 1), h, rfl⟩
 refine WA_exit ?_
 refine Qgh hT 2 [11, 12, 15, 16, 59, 60] [(59, eProg v13), (60, vs 60 1 s_string [k_a])] [(60, ⟨1, 9, 1, false, false, s_string.F [k_a]⟩), (11, cb 0 26 2 (eProg r2)), (15, cb 0 26 2 (eProg r12)), (16, cb 0 26 2 (eProg v13))] 2 ?_
 refine WO_weak (wF 60 1 ⟨1, 9, 1, false, false, s_string.F [k_a]⟩ [(11, bx 11 0), (12, po s_string l3), (15, bx 15 0), (16, bx 16 0), (59, eProg v13), (60, po s_string [k_a])] [(11, cb 0 26 2 (eProg r2)), (15, cb 0 26 2 (eProg r12)), (16, cb 0 26 2 (eProg v13))] ⟨rfl, .keep _, rfl, .keep _, rfl, .keep _, rfl, .keep _, rfl, .keep _, rfl, .hit true, trivial⟩ ⟨rfl, .inl rfl, rfl, .inl rfl, rfl, .inl rfl, trivial⟩) ?_
 obtain ⟨r17, hr17, h⟩ := bsome h
 refine Pt' (vs := [eProg v13, vn, po s_string [k_a]]) en41 (PT_args ((erase_Of_ok hr17)) ⟨VLe.refl _, VLe.nil_opt, VLe.refl _, trivial⟩) ?_
 refine Szh hT 1 [11, 12, 15, 16] [] [(16, cb 0 26 2 (eProg r17)), (11, cb 0 26 2 (eProg r2)), (15, cb 0 26 2 (eProg r12))] 2 ?_
 refine WA_seq ?_
 obtain ⟨J19, hJ19, h⟩ := jsome h
 refine WA_join (fun s => ∃ (b18 : Bool), J19 b18 = some r ∧ s = ⟨[(10, vb b18)], [], 1⟩) ?_ ?_
 ·refine WA_drawW hT hM (by kernel_rfl) ?_
  obtain ⟨r20, hr20, h⟩ := bsome h
  refine Dp [] (vb r20) en39 (law27_known_ok hr20) ?_
  refine Ds 1 [(63, vb r20)] [] [] ?_
  cases hb : (r20 : Bool)
  ·replace h := cfalse hb h
   refine Ds 22 [(10, vb false), (84, vb false), (83, vU), (82, vU), (81, vU), (80, vU), (79, vU), (78, vU), (77, vU), (76, vb false), (75, vb false), (74, vU), (73, vU), (72, vU), (71, vb false), (70, vb false), (69, vU), (68, vU), (67, vU), (66, vU), (65, vU), (64, vU)] [] [] ?_
   refine De ?_
   exact wK [10] [] ⟨false, h, rfl⟩
  replace h := ctrue hb h
  refine Ds 3 [(66, .ps .full (s_string.F [k_a])), (65, po s_string l3), (64, eProg r12)] [] [(2, [15])] ?_
  obtain ⟨r21, hr21, h⟩ := bsome h
  refine Dp [eProg r12, po s_string l3, .ps .full (s_string.F [k_a])] (eProg r21) en41 (PT_args ((erase_Of_ok hr21)) ⟨VLe.refl _, VLe.refl _, VLe.full_opt, trivial⟩) ?_
  refine Ds 1 [(68, eProg r12)] [] [(6, [15])] ?_
  obtain ⟨r22, hr22, h⟩ := bsome h
  refine Dp [eProg r21, eProg r12] (vb r22) en40 (ref1_Same_ok hr22) ?_
  refine Ds 2 [(71, vb r22), (70, vb r22)] [] [] ?_
  cases hb : (r22 : Bool)
  ·replace h := cfalse hb h
   refine Ds 14 [(10, vb false), (84, vb false), (83, vU), (82, vU), (81, vU), (80, vU), (79, vU), (78, vU), (77, vU), (76, vb false), (75, vb false), (74, vU), (73, vU), (72, vU)] [] [] ?_
   refine De ?_
   exact wK [10] [] ⟨false, h, rfl⟩
  replace h := ctrue hb h
  refine Ds 2 [(73, eProg r17), (72, eProg r12)] [] [(10, [15]), (11, [16])] ?_
  obtain ⟨r23, hr23, h⟩ := bsome h
  refine Dp [eProg r12, eProg r17] (vb r23) en40 (ref1_Same_ok hr23) ?_
  refine Ds 2 [(76, vb r23), (75, vb r23)] [] [] ?_
  cases hb : (r23 : Bool)
  ·replace h := cfalse hb h
   refine Ds 9 [(10, vb false), (84, vb false), (83, vU), (82, vU), (81, vU), (80, vU), (79, vU), (78, vU), (77, vU)] [] [] ?_
   refine De ?_
   exact wK [10] [] ⟨false, h, rfl⟩
  replace h := ctrue hb h
  refine Ds 2 [(78, po s_LStmt r12.Threads), (77, .box 15 0 0 1)] [] [(15, [15]), (16, [15])] ?_
  refine Dl rfl (v_len s_LStmt .opt r12.Threads) ?_
  refine Dt (vi (ln r12.Threads)) ?_
  refine Ds 2 [(81, po s_LStmt r2.Threads), (80, .box 11 0 0 1)] [] [(18, [11]), (19, [11])] ?_
  refine Dl rfl (v_len s_LStmt .opt r2.Threads) ?_
  refine Dt (vi (ln r2.Threads)) ?_
  refine Ds 3 [(10, vb ((ln r12.Threads) == (ln r2.Threads))), (84, vb ((ln r12.Threads) == (ln r2.Threads))), (83, vb ((ln r12.Threads) == (ln r2.Threads)))] [] [] ?_
  refine De ?_
  exact wK [10] [] ⟨((ln r12.Threads) == (ln r2.Threads)), h, rfl⟩
 subst hJ19
 rintro s ⟨b18, h, rfl⟩
 obtain rfl := Option.some.inj h
 exact rK [10] [] ⟨[(10, vb b18)], [], 1⟩ ⟨by kernel_rfl, rfl⟩
end Go.Su.Ytfmgnboplbgniaa
