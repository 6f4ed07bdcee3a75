/-
  The functions of the program compute that.
-/
import Derived.Test.YtfmgnboplbgniaaNTPb
namespace Go.Su.Ytfmgnboplbgniaa
open Go.Mx Go.Proofs
set_option maxRecDepth 100000
set_option maxHeartbeats 20000000
set_option linter.unusedVariables false
set_option linter.unusedSimpArgs false

def ref1_block_spec (n : Nat) : Prop := (∀ {a0 : List Stmt} {r : List Stmt}, ref1_block n a0 = some r → GO Try.prog 89 [] [.ps .opt (s_Stmt.F a0)] (vo 100 1 (s_Stmt.F r)) [(100, ⟨1, 38, 11, false, true, s_Stmt.F r⟩)])
theorem ref1_block_step (n : Nat) (ih : ∀ m, m < n → ref1_block_spec m) : ∀ {a0 : List Stmt} {r : List Stmt}, ref1_block n a0 = some r → GO Try.prog 89 [] [.ps .opt (s_Stmt.F a0)] (vo 100 1 (s_Stmt.F r)) [(100, ⟨1, 38, 11, false, true, s_Stmt.F r⟩)] := by
  intro a0 r h
  rcases n with _ | n
  · rw [ref1_block] at h; cases h
  rw [ref1_block] at h
  refine GO_bodyA hT Try.func89 rfl [] (by kernel_rfl) fun bad w m => ?_
  refine Qzd hT 1 [0] [] ?_
  refine Qzd hT 1 [0, 3] [(3, .ps .nil [])] ?_
  refine WA_seq ?_
  refine Qzd hT 1 [0, 3, 4] [(4, vi 0)] ?_
  refine WA_block ?_
  refine aW [0, 3, 4] ⟨[(0, .ps .opt (s_Stmt.F a0)), (3, .ps .nil []), (4, vi 0)], [], 1⟩ ?_
  refine WA_weak (Weak_own 3 5000 38 11 (by kernel_rfl) (by kernel_rfl) (by kernel_rfl) (by kernel_rfl)) ?_
  refine lK [0, 3, 4] [(5000, 10003, 1)] (fun k s => ∃ q, q ≤ k ∧ q ≤ n ∧ ∃ (l1 : List Stmt), ∃ (i2 : Int), ref1_block_L0 q a0 l1 i2 = some r ∧ s = ⟨[(0, .ps .opt (s_Stmt.F a0)), (3, vo 10003 1 (s_Stmt.F l1)), (4, vi i2)], [(10003, ⟨1, 38, 11, false, true, s_Stmt.F l1⟩)], 2⟩) n ⟨n, Nat.le_refl _, Nat.le_refl _, ([] : List Stmt), 0, h, rfl⟩ (by rintro s ⟨q, hq, _, l1, i2, h, _⟩; obtain rfl := Nat.le_zero.1 hq; rw [ref1_block_L0] at h; cases h) ?_
  clear h
  rintro k1 s ⟨q1, hk1, hn1, l1, i2, h, rfl⟩
  rcases q1 with _ | q1
  · rw [ref1_block_L0] at h; cases h
  rw [ref1_block_L0] at h
  refine WA_seq ?_
  refine Qgd hT 2 [0, 3, 4, 5, 6] [(5, vi i2), (6, .ps .opt (s_Stmt.F a0))] ?_
  refine One' hT rfl (ev_len s_Stmt .opt a0 (by kernel_rfl)) ?_
  refine Szd hT 1 [0, 3, 4, 8] [(8, vb (decide (i2 < (ln a0))))] ?_
  refine Cd (decide (i2 < (ln a0))) ?_ ?_
  · intro hb; replace h := ctrue hb h
    refine WA_skip ?_
    refine WA_seq ?_
    refine WA_block ?_
    refine Qg hT 3 [0, 4, 11, 12, 13] ⟨[(0, .ps .opt (s_Stmt.F a0)), (4, vi i2), (11, vo 10003 1 (s_Stmt.F l1)), (12, .ps .opt (s_Stmt.F a0)), (13, vi i2)], [(10003, ⟨1, 38, 11, false, true, s_Stmt.F l1⟩)], 2⟩ ?_
    obtain ⟨x3, hx3, h⟩ := bsome h
    refine One' hT rfl (ev_index s_Stmt .opt a0 .i64 i2 hx3 (by decide) (by kernel_rfl) (by kernel_rfl)) ?_
    refine Sgd hT 1 [0, 4, 11, 15] [(15, eStmt x3)] ?_
    refine One' hT rfl (ev_bslice s_Stmt 16 [x3] (by kernel_rfl)) ?_
    refine Sgh hT 0 [0, 4, 11, 16] [(16, vo 16 2 (s_Stmt.F [x3]))] [(16, ⟨2, 38, 11, false, false, s_Stmt.F [x3]⟩), (10003, ⟨1, 38, 11, false, true, s_Stmt.F l1⟩)] 3 ?_
    obtain ⟨g4, h⟩ := gsome h
    refine WO_append' hT s_Stmt rfl (by kernel_rfl) 10003 1 true l1 [x3] rfl (by kernel_rfl) (by kernel_rfl) (elems_own s_Stmt 16 2 true ⟨2, 38, 11, false, false, s_Stmt.F [x3]⟩ [x3] (by kernel_rfl) (by kernel_rfl) rfl rfl rfl) g4 (by kernel_rfl) ?_
    refine Szh hT 1 [0, 3, 4] [(3, vo 17 3 (s_Stmt.F (l1 ++ [x3])))] [(17, ⟨3, 38, 11, false, true, s_Stmt.F (l1 ++ [x3])⟩), (16, ⟨2, 38, 11, false, false, s_Stmt.F [x3]⟩)] 4 ?_
    refine Qgd hT 3 [0, 4, 18, 19, 20] [(18, vo 17 3 (s_Stmt.F (l1 ++ [x3]))), (19, .ps .opt (s_Stmt.F a0)), (20, vi i2)] ?_
    obtain ⟨x5, hx5, h⟩ := bsome h
    refine One' hT rfl (ev_index s_Stmt .opt a0 .i64 i2 hx5 (by decide) (by kernel_rfl) (by kernel_rfl)) ?_
    refine Sgd hT 2 [0, 4, 18, 23] [(23, .ps .opt (s_Stmt.F x5.Body))] ?_
    obtain ⟨r6, hr6, h⟩ := bsome h
    refine WO_go' rfl (by kernel_rfl) [] [(100, ⟨1, 38, 11, false, true, s_Stmt.F r6⟩)] [.ps .opt (s_Stmt.F x5.Body)] [.ps .opt (s_Stmt.F x5.Body)] [] [(100, 24, 4)] [(24, ⟨4, 38, 11, false, true, s_Stmt.F r6⟩)] (vo 100 1 (s_Stmt.F r6)) (vo 24 4 (s_Stmt.F r6)) 5 rfl (by kernel_rfl) en89 (by kernel_rfl) (by kernel_rfl) (by kernel_rfl) ((ih _ (by omega)) hr6) (by kernel_rfl) (by kernel_rfl) (by kernel_rfl) (by kernel_rfl) ?_
    refine Sgh hT 0 [0, 4, 18, 24] [(24, vo 24 4 (s_Stmt.F r6))] [(24, ⟨4, 38, 11, false, true, s_Stmt.F r6⟩), (17, ⟨3, 38, 11, false, true, s_Stmt.F (l1 ++ [x3])⟩), (16, ⟨2, 38, 11, false, false, s_Stmt.F [x3]⟩)] 5 ?_
    obtain ⟨g7, h⟩ := gsome h
    refine WO_append' hT s_Stmt rfl (by kernel_rfl) 17 3 true (l1 ++ [x3]) r6 rfl (by kernel_rfl) (by kernel_rfl) (elems_own s_Stmt 24 4 true ⟨4, 38, 11, false, true, s_Stmt.F r6⟩ r6 (by kernel_rfl) (by kernel_rfl) rfl rfl rfl) g7 (by kernel_rfl) ?_
    refine Szh hT 1 [0, 3, 4] [(3, vo 25 5 (s_Stmt.F ((l1 ++ [x3]) ++ r6)))] [(25, ⟨5, 38, 11, false, true, s_Stmt.F ((l1 ++ [x3]) ++ r6)⟩), (24, ⟨4, 38, 11, false, true, s_Stmt.F r6⟩), (16, ⟨2, 38, 11, false, false, s_Stmt.F [x3]⟩)] 6 ?_
    refine Rgd hT 3 [0, 4, 26, 27, 28] [(26, vo 25 5 (s_Stmt.F ((l1 ++ [x3]) ++ r6))), (27, .ps .opt (s_Stmt.F a0)), (28, vi i2)] ?_
    obtain ⟨x8, hx8, h⟩ := bsome h
    refine One' hT rfl (ev_index s_Stmt .opt a0 .i64 i2 hx8 (by decide) (by kernel_rfl) (by kernel_rfl)) ?_
    refine Sg hT 2 [0, 4, 26, 31] ⟨[(0, .ps .opt (s_Stmt.F a0)), (4, vi i2), (26, vo 25 5 (s_Stmt.F ((l1 ++ [x3]) ++ r6))), (31, .ps .opt (s_Stmt.F x8.Else))], [(25, ⟨5, 38, 11, false, true, s_Stmt.F ((l1 ++ [x3]) ++ r6)⟩), (24, ⟨4, 38, 11, false, true, s_Stmt.F r6⟩), (16, ⟨2, 38, 11, false, false, s_Stmt.F [x3]⟩)], 6⟩ ?_
    obtain ⟨r9, hr9, h⟩ := bsome h
    refine WO_go' rfl (by kernel_rfl) [] [(100, ⟨1, 38, 11, false, true, s_Stmt.F r9⟩)] [.ps .opt (s_Stmt.F x8.Else)] [.ps .opt (s_Stmt.F x8.Else)] [] [(100, 32, 6)] [(32, ⟨6, 38, 11, false, true, s_Stmt.F r9⟩)] (vo 100 1 (s_Stmt.F r9)) (vo 32 6 (s_Stmt.F r9)) 7 rfl (by kernel_rfl) en89 (by kernel_rfl) (by kernel_rfl) (by kernel_rfl) ((ih _ (by omega)) hr9) (by kernel_rfl) (by kernel_rfl) (by kernel_rfl) (by kernel_rfl) ?_
    refine Sgh hT 0 [0, 4, 26, 32] [(32, vo 32 6 (s_Stmt.F r9))] [(32, ⟨6, 38, 11, false, true, s_Stmt.F r9⟩), (25, ⟨5, 38, 11, false, true, s_Stmt.F ((l1 ++ [x3]) ++ r6)⟩), (24, ⟨4, 38, 11, false, true, s_Stmt.F r6⟩), (16, ⟨2, 38, 11, false, false, s_Stmt.F [x3]⟩)] 7 ?_
    obtain ⟨g10, h⟩ := gsome h
    refine WO_append' hT s_Stmt rfl (by kernel_rfl) 25 5 true ((l1 ++ [x3]) ++ r6) r9 rfl (by kernel_rfl) (by kernel_rfl) (elems_own s_Stmt 32 6 true ⟨6, 38, 11, false, true, s_Stmt.F r9⟩ r9 (by kernel_rfl) (by kernel_rfl) rfl rfl rfl) g10 (by kernel_rfl) ?_
    refine Szh hT 1 [0, 3, 4] [(3, vo 33 7 (s_Stmt.F (((l1 ++ [x3]) ++ r6) ++ r9)))] [(33, ⟨7, 38, 11, false, true, s_Stmt.F (((l1 ++ [x3]) ++ r6) ++ r9)⟩), (32, ⟨6, 38, 11, false, true, s_Stmt.F r9⟩), (24, ⟨4, 38, 11, false, true, s_Stmt.F r6⟩), (16, ⟨2, 38, 11, false, false, s_Stmt.F [x3]⟩)] 8 ?_
    refine Rgd hT 3 [0, 3, 4] [(4, vi (wr (i2 + 1)))] ?_
    exact oK [0, 3, 4] [(33, 10003, 1)] ⟨_, by omega, by omega, ((l1 ++ [x3]) ++ r6) ++ r9, wr (i2 + 1), h, rfl⟩
  intro hb; replace h := cfalse hb h
  refine WA_exit ?_
  refine Qzd hT 2 [2] [(2, vo 10003 1 (s_Stmt.F l1))] ?_
  obtain rfl := Option.some.inj h
  exact rK [2] [(10003, 100, 1)] ⟨[(2, vo 100 1 (s_Stmt.F l1))], [(100, ⟨1, 38, 11, false, true, s_Stmt.F l1⟩)], 2⟩ ⟨by kernel_rfl, by kernel_rfl, rfl⟩
theorem ref1_block_all (n : Nat) : ref1_block_spec n := by
  induction n using Nat.strongRecOn with
  | _ n ih => exact ref1_block_step n ih
theorem ref1_block_ok {n : Nat} {a0 : List Stmt} {r : List Stmt} (h : ref1_block n a0 = some r) : GO Try.prog 89 [] [.ps .opt (s_Stmt.F a0)] (vo 100 1 (s_Stmt.F r)) [(100, ⟨1, 38, 11, false, true, s_Stmt.F r⟩)] := (ref1_block_all n) h

theorem ref1_List_ok {n : Nat} {a0 : Prog} {r : List Stmt} (h : ref1_List n a0 = some r) : GO Try.prog 45 [] [eProg a0] (vo 100 1 (s_Stmt.F r)) [(100, ⟨1, 38, 11, false, true, s_Stmt.F r⟩)] := by
  unfold ref1_List at h
  refine GO_bodyA hT Try.func45 rfl [] (by kernel_rfl) fun bad w m => ?_
  refine Qz hT 2 [1] ⟨[(1, .box 1 1 0 0)], [(1, ⟨1, 26, 2, true, false, [eProg a0]⟩)], 2⟩ ?_
  refine Qzd hT 1 [1, 3] [(3, .ps .nil [])] ?_
  refine WA_seq ?_
  refine Qzd hT 1 [1, 3, 4] [(4, vi 0)] ?_
  refine WA_block ?_
  refine aW [1, 3, 4] ⟨[(1, .box 1 1 0 0), (3, .ps .nil []), (4, vi 0)], [(1, ⟨1, 26, 2, true, false, [eProg a0]⟩)], 2⟩ ?_
  refine WA_weak (Weak_own 3 5000 38 11 (by kernel_rfl) (by kernel_rfl) (by kernel_rfl) (by kernel_rfl)) ?_
  refine lK [1, 3, 4] [(1, 1, 1), (5000, 10003, 1)] (fun k s => ∃ q, q ≤ k ∧ q ≤ n ∧ ∃ (l1 : List Stmt), ∃ (i2 : Int), ref1_List_L0 q a0 l1 i2 = some r ∧ s = ⟨[(1, .box 1 1 0 0), (3, vo 10003 1 (s_Stmt.F l1)), (4, vi i2)], [(1, ⟨1, 26, 2, true, false, [eProg a0]⟩), (10003, ⟨1, 38, 11, false, true, s_Stmt.F l1⟩)], 2⟩) n ⟨n, Nat.le_refl _, Nat.le_refl _, ([] : List Stmt), 0, h, rfl⟩ (by rintro s ⟨q, hq, _, l1, i2, h, _⟩; obtain rfl := Nat.le_zero.1 hq; rw [ref1_List_L0] at h; cases h) ?_
  clear h
  rintro k1 s ⟨q1, hk1, hn1, l1, i2, h, rfl⟩
  rcases q1 with _ | q1
  · rw [ref1_List_L0] at h; cases h
  rw [ref1_List_L0] at h
  refine WA_seq ?_
  refine Qgd hT 3 [1, 3, 4, 5, 7] [(5, vi i2), (7, .ps .opt (s_LStmt.F a0.Threads))] ?_
  refine One' hT rfl (ev_len s_LStmt .opt a0.Threads (by kernel_rfl)) ?_
  refine Sz hT 1 [1, 3, 4, 9] ⟨[(1, .box 1 1 0 0), (3, vo 10003 1 (s_Stmt.F l1)), (4, vi i2), (9, vb (decide (i2 < (ln a0.Threads))))], [(1, ⟨1, 26, 2, true, false, [eProg a0]⟩), (10003, ⟨1, 38, 11, false, true, s_Stmt.F l1⟩)], 2⟩ ?_
  refine Cd (decide (i2 < (ln a0.Threads))) ?_ ?_
  · intro hb; replace h := ctrue hb h
    refine WA_skip ?_
    refine WA_seq ?_
    refine WA_block ?_
    refine Rgd hT 4 [1, 4, 12, 14, 15] [(12, vo 10003 1 (s_Stmt.F l1)), (14, .ps .opt (s_LStmt.F a0.Threads)), (15, vi i2)] ?_
    obtain ⟨x3, hx3, h⟩ := bsome h
    refine One' hT rfl (ev_index s_LStmt .opt a0.Threads .i64 i2 hx3 (by decide) (by kernel_rfl) (by kernel_rfl)) ?_
    refine Sgd hT 1 [1, 4, 12, 17] [(17, .ps .opt (s_Stmt.F x3))] ?_
    obtain ⟨r4, hr4, h⟩ := bsome h
    refine WO_go' rfl (by kernel_rfl) [] [(100, ⟨1, 38, 11, false, true, s_Stmt.F r4⟩)] [.ps .opt (s_Stmt.F x3)] [.ps .opt (s_Stmt.F x3)] [] [(100, 18, 2)] [(18, ⟨2, 38, 11, false, true, s_Stmt.F r4⟩)] (vo 100 1 (s_Stmt.F r4)) (vo 18 2 (s_Stmt.F r4)) 3 rfl (by kernel_rfl) en89 (by kernel_rfl) (by kernel_rfl) (by kernel_rfl) (ref1_block_ok hr4) (by kernel_rfl) (by kernel_rfl) (by kernel_rfl) (by kernel_rfl) ?_
    refine Sgh hT 0 [1, 4, 12, 18] [(18, vo 18 2 (s_Stmt.F r4))] [(18, ⟨2, 38, 11, false, true, s_Stmt.F r4⟩), (1, ⟨1, 26, 2, true, false, [eProg a0]⟩), (10003, ⟨1, 38, 11, false, true, s_Stmt.F l1⟩)] 3 ?_
    obtain ⟨g5, h⟩ := gsome h
    refine WO_append' hT s_Stmt rfl (by kernel_rfl) 10003 1 true l1 r4 rfl (by kernel_rfl) (by kernel_rfl) (elems_own s_Stmt 18 2 true ⟨2, 38, 11, false, true, s_Stmt.F r4⟩ r4 (by kernel_rfl) (by kernel_rfl) rfl rfl rfl) g5 (by kernel_rfl) ?_
    refine Szh hT 1 [1, 3, 4] [(3, vo 19 3 (s_Stmt.F (l1 ++ r4)))] [(19, ⟨3, 38, 11, false, true, s_Stmt.F (l1 ++ r4)⟩), (18, ⟨2, 38, 11, false, true, s_Stmt.F r4⟩), (1, ⟨1, 26, 2, true, false, [eProg a0]⟩)] 4 ?_
    refine Rgd hT 3 [1, 3, 4] [(4, vi (wr (i2 + 1)))] ?_
    exact oK [1, 3, 4] [(1, 1, 1), (19, 10003, 1)] ⟨_, by omega, by omega, l1 ++ r4, wr (i2 + 1), h, rfl⟩
  intro hb; replace h := cfalse hb h
  refine WA_exit ?_
  refine Qzd hT 2 [2] [(2, vo 10003 1 (s_Stmt.F l1))] ?_
  obtain rfl := Option.some.inj h
  exact rK [2] [(10003, 100, 1)] ⟨[(2, vo 100 1 (s_Stmt.F l1))], [(100, ⟨1, 38, 11, false, true, s_Stmt.F l1⟩)], 2⟩ ⟨by kernel_rfl, by kernel_rfl, rfl⟩

def ref1_Names_spec (n : Nat) : Prop := (∀ {a0 : Expr} {r : List ByteArray}, ref1_Names n a0 = some r → GO Try.prog 92 [] [eExpr a0] (vo 100 1 (s_string.F r)) [(100, ⟨1, 9, 1, false, true, s_string.F r⟩)])
theorem ref1_Names_step (n : Nat) (ih : ∀ m, m < n → ref1_Names_spec m) : ∀ {a0 : Expr} {r : List ByteArray}, ref1_Names n a0 = some r → GO Try.prog 92 [] [eExpr a0] (vo 100 1 (s_string.F r)) [(100, ⟨1, 9, 1, false, true, s_string.F r⟩)] := by
  intro a0 r h
  rcases n with _ | n
  · rw [ref1_Names] at h; cases h
  rw [ref1_Names] at h
  refine GO_bodyA hT Try.func92 rfl [] (by kernel_rfl) fun bad w m => ?_
  refine Qz hT 2 [1] ⟨[(1, .box 1 1 0 0)], [(1, ⟨1, 35, 4, true, false, [eExpr a0]⟩)], 2⟩ ?_
  refine Qzd hT 1 [1, 3] [(3, .ps .nil [])] ?_
  refine WA_seq ?_
  refine Qzd hT 3 [1, 3, 7] [(7, vb (a0.Kind == 2))] ?_
  obtain ⟨J2, hJ2, h⟩ := jsome h
  refine WA_join (fun s => ∃ (l1 : List ByteArray), J2 l1 = some r ∧ s = ⟨[(1, .box 1 1 0 0), (3, vo 10003 1 (s_string.F l1))], [(1, ⟨1, 35, 4, true, false, [eExpr a0]⟩), (10003, ⟨1, 9, 1, false, true, s_string.F l1⟩)], 2⟩) ?_ ?_
  · refine Cd (a0.Kind == 2) ?_ ?_
    · intro hb; replace h := ctrue hb h
      refine Rg hT 4 [1, 8, 11] ⟨[(1, .box 1 1 0 0), (8, .ps .nil []), (11, vo 11 2 (s_string.F [a0.Name]))], [(11, ⟨2, 9, 1, false, false, s_string.F [a0.Name]⟩), (1, ⟨1, 35, 4, true, false, [eExpr a0]⟩)], 3⟩ ?_
      refine WO_weak (Weak_own 8 6012 9 1 (by kernel_rfl) (by kernel_rfl) (by kernel_rfl) (by kernel_rfl)) ?_
      obtain ⟨g3, h⟩ := gsome h
      refine WO_append' hT s_string rfl (by kernel_rfl) 6012 3 true ([] : List ByteArray) [a0.Name] rfl (by kernel_rfl) (by kernel_rfl) (elems_own s_string 11 2 true ⟨2, 9, 1, false, false, s_string.F [a0.Name]⟩ [a0.Name] (by kernel_rfl) (by kernel_rfl) rfl rfl rfl) g3 (by kernel_rfl) ?_
      refine Sg hT 1 [1, 3] ⟨[(1, .box 1 1 0 0), (3, vo 12 4 (s_string.F (([] : List ByteArray) ++ [a0.Name])))], [(12, ⟨4, 9, 1, false, true, s_string.F (([] : List ByteArray) ++ [a0.Name])⟩), (11, ⟨2, 9, 1, false, false, s_string.F [a0.Name]⟩), (1, ⟨1, 35, 4, true, false, [eExpr a0]⟩)], 5⟩ ?_
      exact oK [1, 3] [(1, 1, 1), (12, 10003, 1)] ⟨([] : List ByteArray) ++ [a0.Name], h, rfl⟩
    intro hb; replace h := cfalse hb h
    refine aW [1, 3] ⟨[(1, .box 1 1 0 0), (3, .ps .nil [])], [(1, ⟨1, 35, 4, true, false, [eExpr a0]⟩)], 2⟩ ?_
    refine WA_weak (Weak_own 3 5000 9 1 (by kernel_rfl) (by kernel_rfl) (by kernel_rfl) (by kernel_rfl)) ?_
    exact sK [1, 3] [(1, 1, 1), (5000, 10003, 1)] ⟨([] : List ByteArray), h, rfl⟩
  subst hJ2
  rintro s ⟨l1, h, rfl⟩
  refine WA_seq ?_
  refine Qzd hT 1 [1, 3, 4] [(4, vi 0)] ?_
  refine WA_block ?_
  refine lK [1, 3, 4] [(1, 1, 1), (10003, 10003, 1)] (fun k s => ∃ q, q ≤ k ∧ q ≤ n ∧ ∃ (l4 : List ByteArray), ∃ (i5 : Int), ref1_Names_L0 q a0 l1 l4 i5 = some r ∧ s = ⟨[(1, .box 1 1 0 0), (3, vo 10003 1 (s_string.F l4)), (4, vi i5)], [(1, ⟨1, 35, 4, true, false, [eExpr a0]⟩), (10003, ⟨1, 9, 1, false, true, s_string.F l4⟩)], 2⟩) n ⟨n, Nat.le_refl _, Nat.le_refl _, l1, 0, h, rfl⟩ (by rintro s ⟨q, hq, _, l4, i5, h, _⟩; obtain rfl := Nat.le_zero.1 hq; rw [ref1_Names_L0] at h; cases h) ?_
  clear h
  rintro k1 s ⟨q1, hk1, hn1, l4, i5, h, rfl⟩
  rcases q1 with _ | q1
  · rw [ref1_Names_L0] at h; cases h
  rw [ref1_Names_L0] at h
  refine WA_seq ?_
  refine Qgd hT 3 [1, 3, 4, 13, 15] [(13, vi i5), (15, .ps .opt (s_Expr.F a0.Of))] ?_
  refine One' hT rfl (ev_len s_Expr .opt a0.Of (by kernel_rfl)) ?_
  refine Szd hT 1 [1, 3, 4, 17] [(17, vb (decide (i5 < (ln a0.Of))))] ?_
  refine Cd (decide (i5 < (ln a0.Of))) ?_ ?_
  · intro hb; replace h := ctrue hb h
    refine WA_skip ?_
    refine WA_seq ?_
    refine WA_block ?_
    refine Rg hT 4 [1, 4, 20, 22, 23] ⟨[(1, .box 1 1 0 0), (4, vi i5), (20, vo 10003 1 (s_string.F l4)), (22, .ps .opt (s_Expr.F a0.Of)), (23, vi i5)], [(1, ⟨1, 35, 4, true, false, [eExpr a0]⟩), (10003, ⟨1, 9, 1, false, true, s_string.F l4⟩)], 2⟩ ?_
    obtain ⟨x6, hx6, h⟩ := bsome h
    refine One' hT rfl (ev_index s_Expr .opt a0.Of .i64 i5 hx6 (by decide) (by kernel_rfl) (by kernel_rfl)) ?_
    refine Sgd hT 1 [1, 4, 20, 25] [(25, eExpr x6)] ?_
    obtain ⟨r7, hr7, h⟩ := bsome h
    refine WO_go' rfl (by kernel_rfl) [] [(100, ⟨1, 9, 1, false, true, s_string.F r7⟩)] [eExpr x6] [eExpr x6] [] [(100, 26, 2)] [(26, ⟨2, 9, 1, false, true, s_string.F r7⟩)] (vo 100 1 (s_string.F r7)) (vo 26 2 (s_string.F r7)) 3 rfl (by kernel_rfl) en92 (by kernel_rfl) (by kernel_rfl) (by kernel_rfl) ((ih _ (by omega)) hr7) (by kernel_rfl) (by kernel_rfl) (by kernel_rfl) (by kernel_rfl) ?_
    refine Sgh hT 0 [1, 4, 20, 26] [(26, vo 26 2 (s_string.F r7))] [(26, ⟨2, 9, 1, false, true, s_string.F r7⟩), (1, ⟨1, 35, 4, true, false, [eExpr a0]⟩), (10003, ⟨1, 9, 1, false, true, s_string.F l4⟩)] 3 ?_
    obtain ⟨g8, h⟩ := gsome h
    refine WO_append' hT s_string rfl (by kernel_rfl) 10003 1 true l4 r7 rfl (by kernel_rfl) (by kernel_rfl) (elems_own s_string 26 2 true ⟨2, 9, 1, false, true, s_string.F r7⟩ r7 (by kernel_rfl) (by kernel_rfl) rfl rfl rfl) g8 (by kernel_rfl) ?_
    refine Szh hT 1 [1, 3, 4] [(3, vo 27 3 (s_string.F (l4 ++ r7)))] [(27, ⟨3, 9, 1, false, true, s_string.F (l4 ++ r7)⟩), (26, ⟨2, 9, 1, false, true, s_string.F r7⟩), (1, ⟨1, 35, 4, true, false, [eExpr a0]⟩)] 4 ?_
    refine Rgd hT 3 [1, 3, 4] [(4, vi (wr (i5 + 1)))] ?_
    exact oK [1, 3, 4] [(1, 1, 1), (27, 10003, 1)] ⟨_, by omega, by omega, l4 ++ r7, wr (i5 + 1), h, rfl⟩
  intro hb; replace h := cfalse hb h
  refine WA_exit ?_
  refine Qzd hT 2 [2] [(2, vo 10003 1 (s_string.F l4))] ?_
  obtain rfl := Option.some.inj h
  exact rK [2] [(10003, 100, 1)] ⟨[(2, vo 100 1 (s_string.F l4))], [(100, ⟨1, 9, 1, false, true, s_string.F l4⟩)], 2⟩ ⟨by kernel_rfl, by kernel_rfl, rfl⟩
theorem ref1_Names_all (n : Nat) : ref1_Names_spec n := by
  induction n using Nat.strongRecOn with
  | _ n ih => exact ref1_Names_step n ih
theorem ref1_Names_ok {n : Nat} {a0 : Expr} {r : List ByteArray} (h : ref1_Names n a0 = some r) : GO Try.prog 92 [] [eExpr a0] (vo 100 1 (s_string.F r)) [(100, ⟨1, 9, 1, false, true, s_string.F r⟩)] := (ref1_Names_all n) h

theorem ref1_Touches_ok {n : Nat} {a0 : Stmt} {r : List ByteArray} (h : ref1_Touches n a0 = some r) : GO Try.prog 47 [] [eStmt a0] (vo 100 1 (s_string.F r)) [(100, ⟨1, 9, 1, false, true, s_string.F r⟩)] := by
  unfold ref1_Touches at h
  refine GO_bodyA hT Try.func47 rfl [] (by kernel_rfl) fun bad w m => ?_
  refine Qz hT 2 [1] ⟨[(1, .box 1 1 0 0)], [(1, ⟨1, 38, 11, true, false, [eStmt a0]⟩)], 2⟩ ?_
  refine Qzd hT 1 [1, 3] [(3, .ps .nil [])] ?_
  refine WA_seq ?_
  refine Qzd hT 2 [1, 3, 5] [(5, vi a0.Kind)] ?_
  obtain ⟨J2, hJ2, h⟩ := jsome h
  refine WA_join (fun s => ∃ (l1 : List ByteArray), J2 l1 = some r ∧ s = ⟨[(1, .box 1 1 0 0), (3, vo 10003 1 (s_string.F l1))], [(1, ⟨1, 38, 11, true, false, [eStmt a0]⟩), (10003, ⟨1, 9, 1, false, true, s_string.F l1⟩)], 2⟩) ?_ ?_
  · refine WA_block ?_
    refine WA_seq ?_
    refine Qzd hT 2 [1, 3, 5, 6] [(6, vb (a0.Kind == 1))] ?_
    obtain ⟨J4, hJ4, h⟩ := jsome h
    refine WA_join (fun s => ∃ (b3 : Bool), J4 b3 = some r ∧ s = ⟨[(1, .box 1 1 0 0), (3, .ps .nil []), (6, vb b3)], [(1, ⟨1, 38, 11, true, false, [eStmt a0]⟩)], 2⟩) ?_ ?_
    · refine Cd (a0.Kind == 1) ?_ ?_
      · intro hb; replace h := ctrue hb h
        exact sK [1, 3, 6] [(1, 1, 1)] ⟨(a0.Kind == 1), h, rfl⟩
      intro hb; replace h := cfalse hb h
      refine Qzd hT 2 [1, 3, 5, 6] [(6, vb (a0.Kind == 4))] ?_
      refine Cd (a0.Kind == 4) ?_ ?_
      · intro hb; replace h := ctrue hb h
        exact sK [1, 3, 6] [(1, 1, 1)] ⟨(a0.Kind == 4), h, rfl⟩
      intro hb; replace h := cfalse hb h
      refine Qzd hT 2 [1, 3, 5, 6] [(6, vb (a0.Kind == 6))] ?_
      refine Cd (a0.Kind == 6) ?_ ?_
      · intro hb; replace h := ctrue hb h
        exact sK [1, 3, 6] [(1, 1, 1)] ⟨(a0.Kind == 6), h, rfl⟩
      intro hb; replace h := cfalse hb h
      refine Rgd hT 2 [1, 3, 6] [(6, vb (a0.Kind == 7))] ?_
      exact oK [1, 3, 6] [(1, 1, 1)] ⟨(a0.Kind == 7), h, rfl⟩
    subst hJ4
    rintro s ⟨b3, h, rfl⟩
    skip
    refine Cd b3 ?_ ?_
    · intro hb; replace h := ctrue hb h
      refine Rgd hT 2 [1, 12] [(12, eExpr a0.E)] ?_
      obtain ⟨r5, hr5, h⟩ := bsome h
      refine WO_go' rfl (by kernel_rfl) [] [(100, ⟨1, 9, 1, false, true, s_string.F r5⟩)] [eExpr a0.E] [eExpr a0.E] [] [(100, 13, 2)] [(13, ⟨2, 9, 1, false, true, s_string.F r5⟩)] (vo 100 1 (s_string.F r5)) (vo 13 2 (s_string.F r5)) 3 rfl (by kernel_rfl) en92 (by kernel_rfl) (by kernel_rfl) (by kernel_rfl) (ref1_Names_ok hr5) (by kernel_rfl) (by kernel_rfl) (by kernel_rfl) (by kernel_rfl) ?_
      refine Sg hT 1 [1, 3] ⟨[(1, .box 1 1 0 0), (3, vo 13 2 (s_string.F r5))], [(13, ⟨2, 9, 1, false, true, s_string.F r5⟩), (1, ⟨1, 38, 11, true, false, [eStmt a0]⟩)], 3⟩ ?_
      exact oK [1, 3] [(1, 1, 1), (13, 10003, 1)] ⟨r5, h, rfl⟩
    intro hb; replace h := cfalse hb h
    refine aW [1, 3] ⟨[(1, .box 1 1 0 0), (3, .ps .nil [])], [(1, ⟨1, 38, 11, true, false, [eStmt a0]⟩)], 2⟩ ?_
    refine WA_weak (Weak_own 3 5000 9 1 (by kernel_rfl) (by kernel_rfl) (by kernel_rfl) (by kernel_rfl)) ?_
    exact sK [1, 3] [(1, 1, 1), (5000, 10003, 1)] ⟨([] : List ByteArray), h, rfl⟩
  subst hJ2
  rintro s ⟨l1, h, rfl⟩
  refine WA_seq ?_
  refine Qzd hT 3 [1, 3, 16] [(16, vb (a0.Kind == 1))] ?_
  obtain ⟨J7, hJ7, h⟩ := jsome h
  refine WA_join (fun s => ∃ (l6 : List ByteArray), J7 l6 = some r ∧ s = ⟨[(1, .box 1 1 0 0), (3, vo 10003 1 (s_string.F l6))], [(1, ⟨1, 38, 11, true, false, [eStmt a0]⟩), (10003, ⟨1, 9, 1, false, true, s_string.F l6⟩)], 2⟩) ?_ ?_
  · refine Cd (a0.Kind == 1) ?_ ?_
    · intro hb; replace h := ctrue hb h
      refine Rg hT 4 [1, 17, 20] ⟨[(1, .box 1 1 0 0), (17, vo 10003 1 (s_string.F l1)), (20, vo 20 2 (s_string.F [a0.Name]))], [(20, ⟨2, 9, 1, false, false, s_string.F [a0.Name]⟩), (1, ⟨1, 38, 11, true, false, [eStmt a0]⟩), (10003, ⟨1, 9, 1, false, true, s_string.F l1⟩)], 3⟩ ?_
      obtain ⟨g8, h⟩ := gsome h
      refine WO_append' hT s_string rfl (by kernel_rfl) 10003 1 true l1 [a0.Name] rfl (by kernel_rfl) (by kernel_rfl) (elems_own s_string 20 2 true ⟨2, 9, 1, false, false, s_string.F [a0.Name]⟩ [a0.Name] (by kernel_rfl) (by kernel_rfl) rfl rfl rfl) g8 (by kernel_rfl) ?_
      refine Sg hT 1 [1, 3] ⟨[(1, .box 1 1 0 0), (3, vo 21 3 (s_string.F (l1 ++ [a0.Name])))], [(21, ⟨3, 9, 1, false, true, s_string.F (l1 ++ [a0.Name])⟩), (20, ⟨2, 9, 1, false, false, s_string.F [a0.Name]⟩), (1, ⟨1, 38, 11, true, false, [eStmt a0]⟩)], 4⟩ ?_
      exact oK [1, 3] [(1, 1, 1), (21, 10003, 1)] ⟨l1 ++ [a0.Name], h, rfl⟩
    intro hb; replace h := cfalse hb h
    exact sK [1, 3] [(1, 1, 1), (10003, 10003, 1)] ⟨l1, h, rfl⟩
  subst hJ7
  rintro s ⟨l6, h, rfl⟩
  refine WA_seq ?_
  refine Qzd hT 3 [1, 3, 24] [(24, vb (a0.Kind == 5))] ?_
  obtain ⟨J10, hJ10, h⟩ := jsome h
  refine WA_join (fun s => ∃ (l9 : List ByteArray), J10 l9 = some r ∧ s = ⟨[(3, vo 10003 1 (s_string.F l9))], [(10003, ⟨1, 9, 1, false, true, s_string.F l9⟩)], 2⟩) ?_ ?_
  · refine Cd (a0.Kind == 5) ?_ ?_
    · intro hb; replace h := ctrue hb h
      refine Rg hT 4 [25, 28] ⟨[(25, vo 10003 1 (s_string.F l6)), (28, vo 28 2 (s_string.F [a0.Other]))], [(28, ⟨2, 9, 1, false, false, s_string.F [a0.Other]⟩), (1, ⟨1, 38, 11, true, false, [eStmt a0]⟩), (10003, ⟨1, 9, 1, false, true, s_string.F l6⟩)], 3⟩ ?_
      obtain ⟨g11, h⟩ := gsome h
      refine WO_append' hT s_string rfl (by kernel_rfl) 10003 1 true l6 [a0.Other] rfl (by kernel_rfl) (by kernel_rfl) (elems_own s_string 28 2 true ⟨2, 9, 1, false, false, s_string.F [a0.Other]⟩ [a0.Other] (by kernel_rfl) (by kernel_rfl) rfl rfl rfl) g11 (by kernel_rfl) ?_
      refine Sg hT 1 [3] ⟨[(3, vo 29 3 (s_string.F (l6 ++ [a0.Other])))], [(29, ⟨3, 9, 1, false, true, s_string.F (l6 ++ [a0.Other])⟩), (28, ⟨2, 9, 1, false, false, s_string.F [a0.Other]⟩), (1, ⟨1, 38, 11, true, false, [eStmt a0]⟩)], 4⟩ ?_
      exact oK [3] [(29, 10003, 1)] ⟨l6 ++ [a0.Other], h, rfl⟩
    intro hb; replace h := cfalse hb h
    exact sK [3] [(10003, 10003, 1)] ⟨l6, h, rfl⟩
  subst hJ10
  rintro s ⟨l9, h, rfl⟩
  refine Qzd hT 2 [2] [(2, vo 10003 1 (s_string.F l9))] ?_
  obtain rfl := Option.some.inj h
  exact rK [2] [(10003, 100, 1)] ⟨[(2, vo 100 1 (s_string.F l9))], [(100, ⟨1, 9, 1, false, true, s_string.F l9⟩)], 2⟩ ⟨by kernel_rfl, by kernel_rfl, rfl⟩

theorem ref8_kindOf_ok {n : Nat} {a0 : Prog} {a1 : ByteArray} {r : Int} (h : ref8_kindOf n a0 a1 = some r) : PT Try.prog 118 [eProg a0, vw a1] (vi r) := by
  unfold ref8_kindOf at h
  refine PT_bodyA hT Try.func118 rfl (by kernel_rfl) fun bad w => ?_
  refine Qz hT 2 [1, 2] ⟨[(1, vw a1), (2, .box 2 0 0 0)], [(2, ⟨0, 26, 2, true, false, [eProg a0]⟩)], 1⟩ ?_
  refine Qgd hT 2 [2, 6, 7] [(6, eProg a0), (7, vw a1)] ?_
  obtain ⟨r1, hr1, h⟩ := bsome h
  refine Pt' en35 (ref8_Find_ok hr1) ?_
  refine Szd hT 1 [2, 5] [(5, vi r1)] ?_
  refine WA_seq ?_
  refine Qzd hT 2 [2, 5, 10] [(10, vb (decide (r1 < 0)))] ?_
  refine Cd (decide (r1 < 0)) ?_ ?_
  · intro hb; replace h := ctrue hb h
    refine Qzd hT 1 [4] [(4, vi 0)] ?_
    obtain rfl := Option.some.inj h
    exact rK [4] [] ⟨[(4, vi 0)], [], 1⟩ ⟨by kernel_rfl, rfl⟩
  intro hb; replace h := cfalse hb h
  refine WA_skip ?_
  refine Qgd hT 3 [12, 13] [(12, .ps .opt (s_Decl.F a0.Decls)), (13, vi r1)] ?_
  obtain ⟨x2, hx2, h⟩ := bsome h
  refine One' hT rfl (ev_index s_Decl .opt a0.Decls .i64 r1 hx2 (by decide) (by kernel_rfl) (by kernel_rfl)) ?_
  refine Szd hT 3 [4] [(4, vi x2.Kind)] ?_
  obtain rfl := Option.some.inj h
  exact rK [4] [] ⟨[(4, vi x2.Kind)], [], 1⟩ ⟨by kernel_rfl, rfl⟩

theorem ref8_Shared_ok {n : Nat} {a0 : Int} {r : Bool} (h : ref8_Shared n a0 = some r) : PT Try.prog 36 [vi a0] (vb r) := by
  unfold ref8_Shared at h
  refine PT_bodyA hT Try.func36 rfl (by kernel_rfl) fun bad w => ?_
  refine Qz hT 1 [0] ⟨[(0, vi a0)], [], 0⟩ ?_
  refine WA_seq ?_
  obtain ⟨J2, hJ2, h⟩ := jsome h
  refine WA_join (fun s => ∃ (b1 : Bool), J2 b1 = some r ∧ s = ⟨[(2, vb b1)], [], 1⟩) ?_ ?_
  · refine Rg hT 3 [0, 5] ⟨[(0, vi a0), (5, vb (a0 == 1))], [], 0⟩ ?_
    cases hb : ((a0 == 1) : Bool)
    · replace h := cfalse hb h
      refine Sg hT 4 [0, 9] ⟨[(0, vi a0), (9, vb (a0 == 2))], [], 0⟩ ?_
      cases hb : ((a0 == 2) : Bool)
      · replace h := cfalse hb h
        refine Sg hT 4 [2] ⟨[(2, vb (a0 == 3))], [], 0⟩ ?_
        exact oK [2] [] ⟨(a0 == 3), h, rfl⟩
      replace h := ctrue hb h
      refine Sg hT 4 [2] ⟨[(2, vb true)], [], 0⟩ ?_
      exact oK [2] [] ⟨true, h, rfl⟩
    replace h := ctrue hb h
    refine Sg hT 8 [2] ⟨[(2, vb true)], [], 0⟩ ?_
    exact oK [2] [] ⟨true, h, rfl⟩
  subst hJ2
  rintro s ⟨b1, h, rfl⟩
  obtain rfl := Option.some.inj h
  exact rK [2] [] ⟨[(2, vb b1)], [], 1⟩ ⟨by kernel_rfl, rfl⟩

theorem ref8_plain_ok {n : Nat} {a0 : Int} {r : Bool} (h : ref8_plain n a0 = some r) : PT Try.prog 117 [vi a0] (vb r) := by
  unfold ref8_plain at h
  refine PT_bodyA hT Try.func117 rfl (by kernel_rfl) fun bad w => ?_
  refine Qz hT 1 [0] ⟨[(0, vi a0)], [], 0⟩ ?_
  refine WA_seq ?_
  obtain ⟨J2, hJ2, h⟩ := jsome h
  refine WA_join (fun s => ∃ (b1 : Bool), J2 b1 = some r ∧ s = ⟨[(2, vb b1)], [], 1⟩) ?_ ?_
  · refine Rg hT 1 [0, 3] ⟨[(0, vi a0), (3, vi a0)], [], 0⟩ ?_
    obtain ⟨r3, hr3, h⟩ := bsome h
    refine Pt' en36 (ref8_Shared_ok hr3) ?_
    refine Sg hT 1 [0, 5] ⟨[(0, vi a0), (5, vb r3)], [], 0⟩ ?_
    cases hb : (r3 : Bool)
    · replace h := cfalse hb h
      refine Sg hT 4 [2] ⟨[(2, vb (a0 == 4))], [], 0⟩ ?_
      exact oK [2] [] ⟨(a0 == 4), h, rfl⟩
    replace h := ctrue hb h
    refine Sg hT 4 [2] ⟨[(2, vb true)], [], 0⟩ ?_
    exact oK [2] [] ⟨true, h, rfl⟩
  subst hJ2
  rintro s ⟨b1, h, rfl⟩
  obtain rfl := Option.some.inj h
  exact rK [2] [] ⟨[(2, vb b1)], [], 1⟩ ⟨by kernel_rfl, rfl⟩

theorem ref8_right_ok {n : Nat} {a0 : Prog} {a1 : Stmt} {r : Bool} (h : ref8_right n a0 a1 = some r) : PT Try.prog 77 [eProg a0, eStmt a1] (vb r) := by
  unfold ref8_right at h
  refine PT_bodyA hT Try.func77 rfl (by kernel_rfl) fun bad w => ?_
  refine Qz hT 3 [2, 3] ⟨[(2, .box 2 0 0 0), (3, .box 3 1 0 0)], [(3, ⟨1, 38, 11, true, false, [eStmt a1]⟩), (2, ⟨0, 26, 2, true, false, [eProg a0]⟩)], 2⟩ ?_
  refine Qgd hT 1 [2, 3, 7] [(7, eStmt a1)] ?_
  obtain ⟨r1, hr1, h⟩ := bsome h
  refine WO_go' rfl (by kernel_rfl) [] [(100, ⟨1, 9, 1, false, true, s_string.F r1⟩)] [eStmt a1] [eStmt a1] [] [(100, 8, 2)] [(8, ⟨2, 9, 1, false, true, s_string.F r1⟩)] (vo 100 1 (s_string.F r1)) (vo 8 2 (s_string.F r1)) 3 rfl (by kernel_rfl) en47 (by kernel_rfl) (by kernel_rfl) (by kernel_rfl) (ref1_Touches_ok hr1) (by kernel_rfl) (by kernel_rfl) (by kernel_rfl) (by kernel_rfl) ?_
  refine Szh hT 1 [2, 3, 5] [(5, vo 8 2 (s_string.F r1))] [(8, ⟨2, 9, 1, false, true, s_string.F r1⟩), (3, ⟨1, 38, 11, true, false, [eStmt a1]⟩), (2, ⟨0, 26, 2, true, false, [eProg a0]⟩)] 3 ?_
  refine WA_seq ?_
  refine Qzd hT 1 [2, 3, 5, 6] [(6, vi 0)] ?_
  refine WA_block ?_
  refine lK [2, 3, 5, 6] [(2, 2, 0), (3, 3, 0), (8, 8, 0)] (fun k s => ∃ q, q ≤ k ∧ q ≤ n ∧ ∃ (i2 : Int), ref8_right_L0 q a0 a1 r1 i2 = some r ∧ s = ⟨[(2, .box 2 0 0 0), (3, .box 3 0 0 0), (5, vo 8 0 (s_string.F r1)), (6, vi i2)], [(2, ⟨0, 26, 2, true, false, [eProg a0]⟩), (3, ⟨0, 38, 11, true, false, [eStmt a1]⟩), (8, ⟨0, 9, 1, false, true, s_string.F r1⟩)], 1⟩) n ⟨n, Nat.le_refl _, Nat.le_refl _, 0, h, rfl⟩ (by rintro s ⟨q, hq, _, i2, h, _⟩; obtain rfl := Nat.le_zero.1 hq; rw [ref8_right_L0] at h; cases h) ?_
  clear h
  rintro k1 s ⟨q1, hk1, hn1, i2, h, rfl⟩
  rcases q1 with _ | q1
  · rw [ref8_right_L0] at h; cases h
  rw [ref8_right_L0] at h
  refine WA_seq ?_
  refine Qgd hT 2 [2, 3, 5, 6, 9, 10] [(9, vi i2), (10, vo 8 0 (s_string.F r1))] ?_
  refine One' hT rfl (ev_len_own s_string 8 0 true ⟨0, 9, 1, false, true, s_string.F r1⟩ r1 (by kernel_rfl) rfl rfl) ?_
  refine Szd hT 1 [2, 3, 5, 6, 12] [(12, vb (decide (i2 < (ln r1))))] ?_
  refine Cd (decide (i2 < (ln r1))) ?_ ?_
  · intro hb; replace h := ctrue hb h
    refine WA_skip ?_
    refine WA_seq ?_
    refine WA_block ?_
    refine WA_seq ?_
    refine WA_drawW hT hM (by kernel_rfl) ?_
    refine Ds 3 [(17, vi i2), (16, vo 8 0 (s_string.F r1)), (15, eProg a0)] [] [(0, [2])] ?_
    obtain ⟨x3, hx3, h⟩ := bsome h
    refine WD_loc' rfl (by kernel_rfl) (by kernel_rfl) (by kernel_rfl) (ev_index_own s_string 8 0 true ⟨0, 9, 1, false, true, s_string.F r1⟩ r1 .i64 i2 hx3 (by kernel_rfl) (by kernel_rfl) rfl rfl rfl) (by kernel_rfl) ?_
    refine Dt (.box 8 0 i2.toNat 0) ?_
    refine WD_loc' rfl (by kernel_rfl) (by kernel_rfl) (by kernel_rfl) (ev_load_row s_string 8 0 ⟨0, 9, 1, false, true, s_string.F r1⟩ r1 i2.toNat 0 x3 (vw x3) (idx_some hx3).2 (by kernel_rfl) rfl rfl rfl (by kernel_rfl)) (by kernel_rfl) ?_
    refine Dt (vw x3) ?_
    obtain ⟨r4, hr4, h⟩ := bsome h
    refine WD_pt' rfl (by kernel_rfl) (by kernel_rfl) [eProg a0, vw x3] (vi r4) rfl (by kernel_rfl) en118 (by kernel_rfl) (ref8_kindOf_ok hr4) (by kernel_rfl) ?_
    obtain ⟨r5, hr5, h⟩ := bsome h
    refine WD_pt' rfl (by kernel_rfl) (by kernel_rfl) [vi r4] (vb r5) rfl (by kernel_rfl) en117 (by kernel_rfl) (ref8_plain_ok hr5) (by kernel_rfl) ?_
    refine Ds 1 [(22, vb (!r5))] [] [] ?_
    refine WD_end (by kernel_rfl) (by kernel_rfl) (by kernel_rfl) ?_
    refine Wk_done ?_
    refine Cd (!r5) ?_ ?_
    · intro hb; replace h := ctrue hb h
      refine Qzd hT 1 [4] [(4, vb false)] ?_
      obtain rfl := Option.some.inj h
      exact rK [4] [] ⟨[(4, vb false)], [], 1⟩ ⟨by kernel_rfl, rfl⟩
    intro hb; replace h := cfalse hb h
    refine WA_skip ?_
    refine Rgd hT 3 [2, 3, 5, 6] [(6, vi (wr (i2 + 1)))] ?_
    exact oK [2, 3, 5, 6] [(2, 2, 0), (3, 3, 0), (8, 8, 0)] ⟨_, by omega, by omega, wr (i2 + 1), h, rfl⟩
  intro hb; replace h := cfalse hb h
  refine WA_exit ?_
  refine WA_seq ?_
  refine Qzd hT 2 [2, 3, 24] [(24, vi a1.Kind)] ?_
  refine WA_block ?_
  refine WA_seq ?_
  refine Qzd hT 2 [2, 3, 24, 25] [(25, vb (a1.Kind == 2))] ?_
  obtain ⟨J7, hJ7, h⟩ := jsome h
  refine WA_join (fun s => ∃ (b6 : Bool), J7 b6 = some r ∧ s = ⟨[(2, .box 2 0 0 0), (3, .box 3 0 0 0), (24, vi a1.Kind), (25, vb b6)], [(2, ⟨0, 26, 2, true, false, [eProg a0]⟩), (3, ⟨0, 38, 11, true, false, [eStmt a1]⟩)], 1⟩) ?_ ?_
  · refine Cd (a1.Kind == 2) ?_ ?_
    · intro hb; replace h := ctrue hb h
      exact sK [2, 3, 24, 25] [(2, 2, 0), (3, 3, 0)] ⟨(a1.Kind == 2), h, rfl⟩
    intro hb; replace h := cfalse hb h
    refine Rgd hT 2 [2, 3, 24, 25] [(25, vb (a1.Kind == 3))] ?_
    exact oK [2, 3, 24, 25] [(2, 2, 0), (3, 3, 0)] ⟨(a1.Kind == 3), h, rfl⟩
  subst hJ7
  rintro s ⟨b6, h, rfl⟩
  refine Cd b6 ?_ ?_
  · intro hb; replace h := ctrue hb h
    refine Qgd hT 3 [28, 30] [(28, eProg a0), (30, vw a1.Name)] ?_
    obtain ⟨r8, hr8, h⟩ := bsome h
    refine Pt' en118 (ref8_kindOf_ok hr8) ?_
    refine Szd hT 2 [4] [(4, vb (r8 == 5))] ?_
    obtain rfl := Option.some.inj h
    exact rK [4] [] ⟨[(4, vb (r8 == 5))], [], 1⟩ ⟨by kernel_rfl, rfl⟩
  intro hb; replace h := cfalse hb h
  refine WA_seq ?_
  refine Qzd hT 2 [2, 3, 24, 33] [(33, vb (a1.Kind == 4))] ?_
  obtain ⟨J10, hJ10, h⟩ := jsome h
  refine WA_join (fun s => ∃ (b9 : Bool), J10 b9 = some r ∧ s = ⟨[(2, .box 2 0 0 0), (3, .box 3 0 0 0), (33, vb b9)], [(2, ⟨0, 26, 2, true, false, [eProg a0]⟩), (3, ⟨0, 38, 11, true, false, [eStmt a1]⟩)], 1⟩) ?_ ?_
  · refine Cd (a1.Kind == 4) ?_ ?_
    · intro hb; replace h := ctrue hb h
      exact sK [2, 3, 33] [(2, 2, 0), (3, 3, 0)] ⟨(a1.Kind == 4), h, rfl⟩
    intro hb; replace h := cfalse hb h
    refine Rgd hT 2 [2, 3, 33] [(33, vb (a1.Kind == 5))] ?_
    exact oK [2, 3, 33] [(2, 2, 0), (3, 3, 0)] ⟨(a1.Kind == 5), h, rfl⟩
  subst hJ10
  rintro s ⟨b9, h, rfl⟩
  refine Cd b9 ?_ ?_
  · intro hb; replace h := ctrue hb h
    refine Qgd hT 3 [36, 38] [(36, eProg a0), (38, vw a1.Name)] ?_
    obtain ⟨r11, hr11, h⟩ := bsome h
    refine Pt' en118 (ref8_kindOf_ok hr11) ?_
    refine Szd hT 2 [4] [(4, vb (r11 == 6))] ?_
    obtain rfl := Option.some.inj h
    exact rK [4] [] ⟨[(4, vb (r11 == 6))], [], 1⟩ ⟨by kernel_rfl, rfl⟩
  intro hb; replace h := cfalse hb h
  refine WA_skip ?_
  refine Qz hT 1 [4] ⟨[(4, vb true)], [(2, ⟨0, 26, 2, true, false, [eProg a0]⟩), (3, ⟨0, 38, 11, true, false, [eStmt a1]⟩)], 1⟩ ?_
  obtain rfl := Option.some.inj h
  exact rK [4] [] ⟨[(4, vb true)], [], 1⟩ ⟨by kernel_rfl, rfl⟩

theorem ref8_Names_ok {n : Nat} {a0 : Prog} {r : Cx × Int} (h : ref8_Names n a0 = some r) : PT Try.prog 34 [eProg a0] (.tup [vz r.1, vi r.2]) := by
  unfold ref8_Names at h
  refine PT_bodyA hT Try.func34 rfl (by kernel_rfl) fun bad w => ?_
  refine Qz hT 3 [1] ⟨[(1, .box 1 0 0 0)], [(1, ⟨0, 26, 2, true, false, [eProg a0]⟩)], 1⟩ ?_
  refine WA_seq ?_
  refine Qzd hT 1 [1, 4] [(4, vi 0)] ?_
  refine WA_block ?_
  refine lK [1, 4] [(1, 1, 0)] (fun k s => ∃ q, q ≤ k ∧ q ≤ n ∧ ∃ (i1 : Int), ref8_Names_L0 q a0 i1 = some r ∧ s = ⟨[(1, .box 1 0 0 0), (4, vi i1)], [(1, ⟨0, 26, 2, true, false, [eProg a0]⟩)], 1⟩) n ⟨n, Nat.le_refl _, Nat.le_refl _, 0, h, rfl⟩ (by rintro s ⟨q, hq, _, i1, h, _⟩; obtain rfl := Nat.le_zero.1 hq; rw [ref8_Names_L0] at h; cases h) ?_
  clear h
  rintro k1 s ⟨q1, hk1, hn1, i1, h, rfl⟩
  rcases q1 with _ | q1
  · rw [ref8_Names_L0] at h; cases h
  rw [ref8_Names_L0] at h
  refine WA_seq ?_
  refine Qgd hT 3 [1, 4, 7, 9] [(7, vi i1), (9, .ps .opt (s_Decl.F a0.Decls))] ?_
  refine One' hT rfl (ev_len s_Decl .opt a0.Decls (by kernel_rfl)) ?_
  refine Szd hT 1 [1, 4, 11] [(11, vb (decide (i1 < (ln a0.Decls))))] ?_
  refine Cd (decide (i1 < (ln a0.Decls))) ?_ ?_
  · intro hb; replace h := ctrue hb h
    refine WA_skip ?_
    refine WA_seq ?_
    refine WA_block ?_
    refine WA_seq ?_
    refine WA_drawW hT hM (by kernel_rfl) ?_
    refine Ds 4 [(17, vi i1), (16, .ps .opt (s_Decl.F a0.Decls)), (15, .box 1 0 0 0), (14, eProg a0)] [] [(0, [1]), (1, [1]), (2, [1])] ?_
    obtain ⟨x2, hx2, h⟩ := bsome h
    refine WD_loc' rfl (by kernel_rfl) (by kernel_rfl) (by kernel_rfl) (ev_index s_Decl .opt a0.Decls .i64 i1 hx2 (by decide) (by kernel_rfl) (by kernel_rfl)) (by kernel_rfl) ?_
    refine Dt (.ref (eDecl x2) 0) ?_
    refine Ds 2 [(20, vw x2.Name), (19, .ref (eDecl x2) 1)] [] [] ?_
    obtain ⟨r3, hr3, h⟩ := bsome h
    refine WD_pt' rfl (by kernel_rfl) (by kernel_rfl) [eProg a0, vw x2.Name] (vi r3) rfl (by kernel_rfl) en35 (by kernel_rfl) (ref8_Find_ok hr3) (by kernel_rfl) ?_
    refine Ds 2 [(23, vb (decide (r3 < i1))), (22, vi i1)] [] [] ?_
    refine WD_end (by kernel_rfl) (by kernel_rfl) (by kernel_rfl) ?_
    refine Wk_done ?_
    refine Cd (decide (r3 < i1)) ?_ ?_
    · intro hb; replace h := ctrue hb h
      refine Qgd hT 3 [25, 26] [(25, .ps .opt (s_Decl.F a0.Decls)), (26, vi i1)] ?_
      obtain ⟨x4, hx4, h⟩ := bsome h
      refine One' hT rfl (ev_index s_Decl .opt a0.Decls .i64 i1 hx4 (by decide) (by kernel_rfl) (by kernel_rfl)) ?_
      refine Szd hT 4 [2, 3] [(2, vz x4.At), (3, vi 3)] ?_
      obtain rfl := Option.some.inj h
      exact rK [2, 3] [] ⟨[(2, vz x4.At), (3, vi 3)], [], 1⟩ ⟨by kernel_rfl, rfl⟩
    intro hb; replace h := cfalse hb h
    refine WA_skip ?_
    refine Rgd hT 3 [1, 4] [(4, vi (wr (i1 + 1)))] ?_
    exact oK [1, 4] [(1, 1, 0)] ⟨_, by omega, by omega, wr (i1 + 1), h, rfl⟩
  intro hb; replace h := cfalse hb h
  refine WA_exit ?_
  refine Qgd hT 1 [1, 30] [(30, eProg a0)] ?_
  obtain ⟨r5, hr5, h⟩ := bsome h
  refine WO_go' rfl (by kernel_rfl) [] [(100, ⟨1, 38, 11, false, true, s_Stmt.F r5⟩)] [eProg a0] [eProg a0] [] [(100, 31, 1)] [(31, ⟨1, 38, 11, false, true, s_Stmt.F r5⟩)] (vo 100 1 (s_Stmt.F r5)) (vo 31 1 (s_Stmt.F r5)) 2 rfl (by kernel_rfl) en45 (by kernel_rfl) (by kernel_rfl) (by kernel_rfl) (ref1_List_ok hr5) (by kernel_rfl) (by kernel_rfl) (by kernel_rfl) (by kernel_rfl) ?_
  refine Sz hT 1 [1, 5] ⟨[(1, .box 1 0 0 0), (5, vo 31 1 (s_Stmt.F r5))], [(31, ⟨1, 38, 11, false, true, s_Stmt.F r5⟩), (1, ⟨0, 26, 2, true, false, [eProg a0]⟩)], 2⟩ ?_
  refine WA_seq ?_
  refine Qzd hT 1 [1, 5, 6] [(6, vi 0)] ?_
  refine WA_block ?_
  refine lK [1, 5, 6] [(1, 1, 0), (31, 31, 0)] (fun k s => ∃ q, q ≤ k ∧ q ≤ q1 ∧ ∃ (i6 : Int), ref8_Names_L1 q a0 i1 r5 i6 = some r ∧ s = ⟨[(1, .box 1 0 0 0), (5, vo 31 0 (s_Stmt.F r5)), (6, vi i6)], [(1, ⟨0, 26, 2, true, false, [eProg a0]⟩), (31, ⟨0, 38, 11, false, true, s_Stmt.F r5⟩)], 1⟩) q1 ⟨q1, Nat.le_refl _, Nat.le_refl _, 0, h, rfl⟩ (by rintro s ⟨q, hq, _, i6, h, _⟩; obtain rfl := Nat.le_zero.1 hq; rw [ref8_Names_L1] at h; cases h) ?_
  clear h
  rintro k2 s ⟨q2, hk2, hn2, i6, h, rfl⟩
  rcases q2 with _ | q2
  · rw [ref8_Names_L1] at h; cases h
  rw [ref8_Names_L1] at h
  refine WA_seq ?_
  refine Qgd hT 2 [1, 5, 6, 32, 33] [(32, vi i6), (33, vo 31 0 (s_Stmt.F r5))] ?_
  refine One' hT rfl (ev_len_own s_Stmt 31 0 true ⟨0, 38, 11, false, true, s_Stmt.F r5⟩ r5 (by kernel_rfl) rfl rfl) ?_
  refine Szd hT 1 [1, 5, 6, 35] [(35, vb (decide (i6 < (ln r5))))] ?_
  refine Cd (decide (i6 < (ln r5))) ?_ ?_
  · intro hb; replace h := ctrue hb h
    refine WA_skip ?_
    refine WA_seq ?_
    refine WA_block ?_
    refine WA_seq ?_
    refine WA_drawW hT hM (by kernel_rfl) ?_
    refine Ds 3 [(40, vi i6), (39, vo 31 0 (s_Stmt.F r5)), (38, eProg a0)] [] [(0, [1])] ?_
    obtain ⟨x7, hx7, h⟩ := bsome h
    refine WD_loc' rfl (by kernel_rfl) (by kernel_rfl) (by kernel_rfl) (ev_index_own s_Stmt 31 0 true ⟨0, 38, 11, false, true, s_Stmt.F r5⟩ r5 .i64 i6 hx7 (by kernel_rfl) (by kernel_rfl) rfl rfl rfl) (by kernel_rfl) ?_
    refine Dt (.box 31 0 i6.toNat 0) ?_
    refine WD_loc' rfl (by kernel_rfl) (by kernel_rfl) (by kernel_rfl) (ev_load_row s_Stmt 31 0 ⟨0, 38, 11, false, true, s_Stmt.F r5⟩ r5 i6.toNat 0 x7 (eStmt x7) (idx_some hx7).2 (by kernel_rfl) rfl rfl rfl (by kernel_rfl)) (by kernel_rfl) ?_
    refine Dt (eStmt x7) ?_
    obtain ⟨r8, hr8, h⟩ := bsome h
    refine WD_pt' rfl (by kernel_rfl) (by kernel_rfl) [eProg a0, eStmt x7] (vb r8) rfl (by kernel_rfl) en77 (by kernel_rfl) (ref8_right_ok hr8) (by kernel_rfl) ?_
    refine Ds 1 [(44, vb (!r8))] [] [] ?_
    refine WD_end (by kernel_rfl) (by kernel_rfl) (by kernel_rfl) ?_
    refine Wk_done ?_
    refine Cd (!r8) ?_ ?_
    · intro hb; replace h := ctrue hb h
      refine Qgd hT 2 [45, 46] [(45, vo 31 0 (s_Stmt.F r5)), (46, vi i6)] ?_
      obtain ⟨x9, hx9, h⟩ := bsome h
      refine One' hT rfl (ev_index_own s_Stmt 31 0 true ⟨0, 38, 11, false, true, s_Stmt.F r5⟩ r5 .i64 i6 hx9 (by kernel_rfl) (by kernel_rfl) rfl rfl rfl) ?_
      refine Sgd hT 1 [48] [(48, .box 31 0 i6.toNat 10)] ?_
      refine One' hT rfl (ev_load_row s_Stmt 31 0 ⟨0, 38, 11, false, true, s_Stmt.F r5⟩ r5 i6.toNat 10 x9 (vz x9.At) (idx_some hx9).2 (by kernel_rfl) rfl rfl rfl (by kernel_rfl)) ?_
      refine Sz hT 2 [2, 3] ⟨[(2, vz x9.At), (3, vi 3)], [(1, ⟨0, 26, 2, true, false, [eProg a0]⟩), (31, ⟨0, 38, 11, false, true, s_Stmt.F r5⟩)], 1⟩ ?_
      obtain rfl := Option.some.inj h
      exact rK [2, 3] [] ⟨[(2, vz x9.At), (3, vi 3)], [], 1⟩ ⟨by kernel_rfl, rfl⟩
    intro hb; replace h := cfalse hb h
    refine WA_skip ?_
    refine Rgd hT 3 [1, 5, 6] [(6, vi (wr (i6 + 1)))] ?_
    exact oK [1, 5, 6] [(1, 1, 0), (31, 31, 0)] ⟨_, by omega, by omega, wr (i6 + 1), h, rfl⟩
  intro hb; replace h := cfalse hb h
  refine WA_exit ?_
  refine Qzd hT 2 [2, 3] [(2, vz c0), (3, vi 0)] ?_
  obtain rfl := Option.some.inj h
  exact rK [2, 3] [] ⟨[(2, vz c0), (3, vi 0)], [], 1⟩ ⟨by kernel_rfl, rfl⟩

theorem law8_known_ok {n : Nat} {r : Bool} (h : law8_known n = some r) : PT Try.prog 29 [] (vb r) := by
  unfold law8_known at h
  refine PT_bodyA hT Try.func29 rfl (by kernel_rfl) fun bad w => ?_
  refine Qz hT 1 [] ⟨[], [], 0⟩ ?_
  refine WA_seq ?_
  refine WA_region ?_
  obtain ⟨r1, hr1, h⟩ := bsome h
  refine Pt' en27 (law8_read_ok hr1) ?_
  obtain ⟨r2, hr2, h⟩ := bsome h
  refine Pt' en26 (names_Check_ok hr2) ?_
  refine Sz hT 5 [1, 2] ⟨[(1, vz r2.1), (2, vi r2.2)], [], 0⟩ ?_
  refine WA_seq ?_
  refine WA_region ?_
  obtain ⟨r3, hr3, h⟩ := bsome h
  refine Pt' en27 (law8_read_ok hr3) ?_
  refine Sgd hT 0 [1, 2, 11] [(11, eProg r3)] ?_
  obtain ⟨r4, hr4, h⟩ := bsome h
  refine Pt' en26 (names_Check_ok hr4) ?_
  refine Szd hT 5 [1, 2, 4] [(4, vi r4.2)] ?_
  refine WA_seq ?_
  obtain ⟨J6, hJ6, h⟩ := jsome h
  refine WA_join (fun s => ∃ (b5 : Bool), J6 b5 = some r ∧ s = ⟨[(0, vb b5)], [], 1⟩) ?_ ?_
  · refine Rgd hT 3 [1, 4, 17] [(17, vb (r2.2 == 3))] ?_
    cases hb : ((r2.2 == 3) : Bool)
    · replace h := cfalse hb h
      refine Sg hT 8 [0] ⟨[(0, vb false)], [], 0⟩ ?_
      exact oK [0] [] ⟨false, h, rfl⟩
    replace h := ctrue hb h
    refine Sg hT 4 [4, 21] ⟨[(4, vi r4.2), (21, vb ((FloatKind.f64.format.order r2.1.re (⟨4607182418800017408, 4616189618054758400⟩ : Cx).re == some .eq) && (FloatKind.f64.format.order r2.1.im (⟨4607182418800017408, 4616189618054758400⟩ : Cx).im == some .eq)))], [], 0⟩ ?_
    cases hb : (((FloatKind.f64.format.order r2.1.re (⟨4607182418800017408, 4616189618054758400⟩ : Cx).re == some .eq) && (FloatKind.f64.format.order r2.1.im (⟨4607182418800017408, 4616189618054758400⟩ : Cx).im == some .eq)) : Bool)
    · replace h := cfalse hb h
      refine Sg hT 4 [0] ⟨[(0, vb false)], [], 0⟩ ?_
      exact oK [0] [] ⟨false, h, rfl⟩
    replace h := ctrue hb h
    refine Sg hT 4 [0] ⟨[(0, vb (r4.2 == 0))], [], 0⟩ ?_
    exact oK [0] [] ⟨(r4.2 == 0), h, rfl⟩
  subst hJ6
  rintro s ⟨b5, h, rfl⟩
  obtain rfl := Option.some.inj h
  exact rK [0] [] ⟨[(0, vb b5)], [], 1⟩ ⟨by kernel_rfl, rfl⟩

theorem law8_NamesTells_ok {n : Nat} {a0 : Int} {a1 : List Act} {a2 : List Act} {a3 : List Act} {a4 : List Int} {a5 : ByteArray} {a6 : Int} {r : Bool} (h : law8_NamesTells n a0 a1 a2 a3 a4 a5 a6 = some r) : PT Try.prog 7 [vi a0, .ps .opt (s_Act.F a1), .ps .opt (s_Act.F a2), .ps .opt (s_Act.F a3), .ps .opt (s_int.F a4), vw a5, vi a6] (vb r) := by
  unfold law8_NamesTells at h
  refine PT_bodyA hT Try.func7 rfl (by kernel_rfl) fun bad w => ?_
  refine Qzd hT 1 [0, 1, 2, 3, 4, 5, 6] [] ?_
  refine Qgd hT 4 [4, 5, 6, 22, 23, 24, 25] [(22, vi a0), (23, .ps .opt (s_Act.F a1)), (24, .ps .opt (s_Act.F a2)), (25, .ps .opt (s_Act.F a3))] ?_
  obtain ⟨r1, hr1, h⟩ := bsome h
  refine WO_go' rfl (by kernel_rfl) [] [(100, ⟨1, 32, 1, false, true, s_LStmt.F r1.Threads⟩)] [vi a0, .ps .opt (s_Act.F a1), .ps .opt (s_Act.F a2), .ps .opt (s_Act.F a3), vi 4] [vi a0, .ps .opt (s_Act.F a1), .ps .opt (s_Act.F a2), .ps .opt (s_Act.F a3), vi 4] [] [(100, 26, 0)] [(26, ⟨0, 32, 1, false, true, s_LStmt.F r1.Threads⟩)] (.agg [.ps .opt (s_Decl.F r1.Decls), vo 100 1 (s_LStmt.F r1.Threads)]) (.agg [.ps .opt (s_Decl.F r1.Decls), vo 26 0 (s_LStmt.F r1.Threads)]) 1 rfl (by kernel_rfl) en15 (by kernel_rfl) (by kernel_rfl) (by kernel_rfl) (hand_Prog_ok hr1) (by kernel_rfl) (by kernel_rfl) (by kernel_rfl) (by kernel_rfl) ?_
  refine Sgh hT 0 [4, 5, 6, 26] [(26, .agg [.ps .opt (s_Decl.F r1.Decls), vo 26 0 (s_LStmt.F r1.Threads)])] [(26, ⟨0, 32, 1, false, true, s_LStmt.F r1.Threads⟩)] 1 ?_
  refine WO_weak (Weak_frz 26 0 ⟨0, 32, 1, false, true, s_LStmt.F r1.Threads⟩ (by kernel_rfl) rfl rfl [(4, .ps .opt (s_int.F a4)), (5, vw a5), (6, vi a6), (26, eProg r1)] [] ⟨rfl, .keep _, rfl, .keep _, rfl, .keep _, rfl, .aggs ⟨.keep _, .hit true, trivial⟩, trivial⟩ trivial) ?_
  obtain ⟨r2, hr2, h⟩ := bsome h
  refine Pt' en33 (ref1_Show_ok hr2) ?_
  refine Sgd hT 0 [4, 5, 6, 27] [(27, vw r2)] ?_
  obtain ⟨r3, hr3, h⟩ := bsome h
  refine Pt' en27 (law8_read_ok hr3) ?_
  refine Sgd hT 1 [5, 6, 28, 29] [(28, eProg r3), (29, .ps .opt (s_int.F a4))] ?_
  obtain ⟨r4, hr4, h⟩ := bsome h
  refine Pt' en32 (law8_turned_ok hr4) ?_
  refine Szh hT 2 [5, 6, 15] [(15, .box 15 1 0 0)] [(15, ⟨1, 26, 2, true, false, [eProg r4]⟩)] 2 ?_
  refine Qgd hT 1 [5, 6, 15, 32] [(32, eProg r4)] ?_
  obtain ⟨r5, hr5, h⟩ := bsome h
  refine Pt' en26 (names_Check_ok hr5) ?_
  refine Szd hT 5 [5, 6, 15, 16, 17] [(16, vz r5.1), (17, vi r5.2)] ?_
  refine Qg hT 1 [5, 6, 15, 16, 17, 37] ⟨[(5, vw a5), (6, vi a6), (15, .box 15 1 0 0), (16, vz r5.1), (17, vi r5.2), (37, eProg r4)], [(15, ⟨1, 26, 2, true, false, [eProg r4]⟩)], 2⟩ ?_
  obtain ⟨r6, hr6, h⟩ := bsome h
  refine Pt' en34 (ref8_Names_ok hr6) ?_
  refine Szd hT 5 [5, 6, 15, 16, 17, 18, 19] [(18, vz r6.1), (19, vi r6.2)] ?_
  refine Qgd hT 1 [5, 15, 16, 17, 18, 19, 41] [(41, vi a6)] ?_
  obtain ⟨r7, hr7, h⟩ := bsome h
  refine Pt' en17 (hand_Pick_ok hr7) ?_
  refine Szd hT 2 [5, 6, 15, 16, 17, 18, 19] [(6, vi (wr (r7 - 1)))] ?_
  refine WA_seq ?_
  refine Qzd hT 3 [6, 15, 16, 17, 18, 19, 45, 46] [(45, .agg [vw a5, vw k_x, vw k_other, vw k_c]), (46, vi 0)] ?_
  refine WA_block ?_
  refine lK [6, 15, 16, 17, 18, 19, 45, 46] [(15, 15, 0)] (fun k s => ∃ q, q ≤ k ∧ q ≤ n ∧ ∃ (i8 : Int), law8_NamesTells_L0 q a0 a1 a2 a3 a4 a5 a6 r1 r2 r3 r4 r5 r6 r7 i8 = some r ∧ s = ⟨[(6, vi (wr (r7 - 1))), (15, .box 15 0 0 0), (16, vz r5.1), (17, vi r5.2), (18, vz r6.1), (19, vi r6.2), (45, .agg [vw a5, vw k_x, vw k_other, vw k_c]), (46, vi i8)], [(15, ⟨0, 26, 2, true, false, [eProg r4]⟩)], 1⟩) n ⟨n, Nat.le_refl _, Nat.le_refl _, 0, h, rfl⟩ (by rintro s ⟨q, hq, _, i8, h, _⟩; obtain rfl := Nat.le_zero.1 hq; rw [law8_NamesTells_L0] at h; cases h) ?_
  clear h
  rintro k1 s ⟨q1, hk1, hn1, i8, h, rfl⟩
  rcases q1 with _ | q1
  · rw [law8_NamesTells_L0] at h; cases h
  rw [law8_NamesTells_L0] at h
  refine Qzd hT 1 [6, 15, 16, 17, 18, 19, 45, 46, 47] [(47, vb (decide (i8 < 4)))] ?_
  refine WA_seq ?_
  refine Cd (decide (i8 < 4)) ?_ ?_
  · intro hb; replace h := ctrue hb h
    refine WA_skip ?_
    refine WA_seq ?_
    refine WA_block ?_
    refine Qgd hT 0 [6, 15, 16, 17, 18, 19, 45, 46] [] ?_
    obtain ⟨x9, hx9, h⟩ := bsome h
    refine One' hT rfl (ev_indexA e_s [a5, k_x, k_other, k_c] .i64 i8 _ _ 9 hx9 (by kernel_rfl) (by kernel_rfl) rfl rfl rfl rfl rfl) ?_
    refine Szd hT 1 [6, 15, 16, 17, 18, 19, 21, 45, 46] [(21, vw x9)] ?_
    refine WA_seq ?_
    refine WA_drawW hT hM (by kernel_rfl) ?_
    refine Ds 2 [(50, vw x9), (49, eProg r4)] [] [(0, [15])] ?_
    obtain ⟨r10, hr10, h⟩ := bsome h
    refine WD_pt' rfl (by kernel_rfl) (by kernel_rfl) [eProg r4, vw x9] (vi r10) rfl (by kernel_rfl) en30 (by kernel_rfl) (names_Find_ok hr10) (by kernel_rfl) ?_
    refine Ds 2 [(53, vw x9), (52, eProg r4)] [] [(3, [15])] ?_
    obtain ⟨r11, hr11, h⟩ := bsome h
    refine WD_pt' rfl (by kernel_rfl) (by kernel_rfl) [eProg r4, vw x9] (vi r11) rfl (by kernel_rfl) en35 (by kernel_rfl) (ref8_Find_ok hr11) (by kernel_rfl) ?_
    refine Ds 1 [(55, vb (r10 != r11))] [] [] ?_
    refine WD_end (by kernel_rfl) (by kernel_rfl) (by kernel_rfl) ?_
    refine Wk_done ?_
    refine Cd (r10 != r11) ?_ ?_
    · intro hb; replace h := ctrue hb h
      refine Qzd hT 1 [14] [(14, vb false)] ?_
      obtain rfl := Option.some.inj h
      exact rK [14] [] ⟨[(14, vb false)], [], 1⟩ ⟨by kernel_rfl, rfl⟩
    intro hb; replace h := cfalse hb h
    refine WA_skip ?_
    refine Rg hT 2 [6, 15, 16, 17, 18, 19, 45, 46] ⟨[(6, vi (wr (r7 - 1))), (15, .box 15 0 0 0), (16, vz r5.1), (17, vi r5.2), (18, vz r6.1), (19, vi r6.2), (45, .agg [vw a5, vw k_x, vw k_other, vw k_c]), (46, vi (wr (i8 + 1)))], [(15, ⟨0, 26, 2, true, false, [eProg r4]⟩)], 1⟩ ?_
    exact oK [6, 15, 16, 17, 18, 19, 45, 46] [(15, 15, 0)] ⟨_, by omega, by omega, wr (i8 + 1), h, rfl⟩
  intro hb; replace h := cfalse hb h
  refine WA_exit ?_
  refine WA_seq ?_
  obtain ⟨J13, hJ13, h⟩ := jsome h
  refine WA_join (fun s => ∃ (b12 : Bool), J13 b12 = some r ∧ s = ⟨[(14, vb b12)], [], 1⟩) ?_ ?_
  · refine Rgd hT 0 [6, 16, 17, 18, 19] [] ?_
    obtain ⟨r14, hr14, h⟩ := bsome h
    refine Pt' en29 (law8_known_ok hr14) ?_
    refine Sgd hT 1 [6, 16, 17, 18, 19, 58] [(58, vb r14)] ?_
    cases hb : (r14 : Bool)
    · replace h := cfalse hb h
      refine Sgd hT 17 [14] [(14, vb false)] ?_
      exact oK [14] [] ⟨false, h, rfl⟩
    replace h := ctrue hb h
    refine Sgd hT 5 [6, 17, 19, 63] [(63, vb ((FloatKind.f64.format.order r5.1.re r6.1.re == some .eq) && (FloatKind.f64.format.order r5.1.im r6.1.im == some .eq)))] ?_
    cases hb : (((FloatKind.f64.format.order r5.1.re r6.1.re == some .eq) && (FloatKind.f64.format.order r5.1.im r6.1.im == some .eq)) : Bool)
    · replace h := cfalse hb h
      refine Sgd hT 12 [14] [(14, vb false)] ?_
      exact oK [14] [] ⟨false, h, rfl⟩
    replace h := ctrue hb h
    refine Sgd hT 5 [6, 68] [(68, vb (r5.2 == r6.2))] ?_
    cases hb : ((r5.2 == r6.2) : Bool)
    · replace h := cfalse hb h
      refine Sgd hT 7 [14] [(14, vb false)] ?_
      exact oK [14] [] ⟨false, h, rfl⟩
    replace h := ctrue hb h
    refine Sg hT 1 [6, 68, 69] ⟨[(6, vi (wr (r7 - 1))), (68, vb true), (69, vi (wr (r7 - 1)))], [(15, ⟨0, 26, 2, true, false, [eProg r4]⟩)], 1⟩ ?_
    obtain ⟨r15, hr15, h⟩ := bsome h
    refine Pt' en31 (names_Shared_ok hr15) ?_
    refine Sgd hT 1 [68, 70, 71] [(70, vb r15), (71, vi (wr (r7 - 1)))] ?_
    obtain ⟨r16, hr16, h⟩ := bsome h
    refine Pt' en36 (ref8_Shared_ok hr16) ?_
    refine Sgd hT 3 [14] [(14, vb (r15 == r16))] ?_
    exact oK [14] [] ⟨(r15 == r16), h, rfl⟩
  subst hJ13
  rintro s ⟨b12, h, rfl⟩
  obtain rfl := Option.some.inj h
  exact rK [14] [] ⟨[(14, vb b12)], [], 1⟩ ⟨by kernel_rfl, rfl⟩

end Go.Su.Ytfmgnboplbgniaa
