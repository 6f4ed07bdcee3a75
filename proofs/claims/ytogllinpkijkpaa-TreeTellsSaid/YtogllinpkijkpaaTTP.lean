/-
  The functions of the program compute that.
-/
import Derived.Test.YtogllinpkijkpaaTTPa
namespace Go.Su.Ytogllinpkijkpaa
open Go.Mx Go.Proofs
set_option maxRecDepth 100000
set_option maxHeartbeats 20000000
set_option linter.unusedVariables false
set_option linter.unusedSimpArgs false

def ref1_Names_spec (n : Nat) : Prop := (∀ {a0 : Expr} {r : List ByteArray}, ref1_Names n a0 = some r → GO Try.prog 23 [] [eExpr a0] (vo 100 1 (s_string.F r)) [(100, ⟨1, 9, 1, false, true, s_string.F r⟩)])
theorem ref1_Names_step (n : Nat) (ih : ∀ m, m < n → ref1_Names_spec m) : ∀ {a0 : Expr} {r : List ByteArray}, ref1_Names n a0 = some r → GO Try.prog 23 [] [eExpr a0] (vo 100 1 (s_string.F r)) [(100, ⟨1, 9, 1, false, true, s_string.F r⟩)] := by
  intro a0 r h
  rcases n with _ | n
  · rw [ref1_Names] at h; cases h
  rw [ref1_Names] at h
  refine GO_bodyA hT Try.func23 rfl [] (by kernel_rfl) fun bad w m => ?_
  refine Qz hT 2 [1] ⟨[(1, .box 1 1 0 0)], [(1, ⟨1, 36, 4, true, false, [eExpr a0]⟩)], 2⟩ ?_
  refine Qzd hT 1 [1, 3] [(3, .ps .nil [])] ?_
  refine WA_seq ?_
  refine Qzd hT 3 [1, 3, 7] [(7, vb (a0.Kind == 2))] ?_
  obtain ⟨J2, hJ2, h⟩ := jsome h
  refine WA_join (fun s => ∃ (l1 : List ByteArray), J2 l1 = some r ∧ s = ⟨[(1, .box 1 1 0 0), (3, vo 10003 1 (s_string.F l1))], [(1, ⟨1, 36, 4, true, false, [eExpr a0]⟩), (10003, ⟨1, 9, 1, false, true, s_string.F l1⟩)], 2⟩) ?_ ?_
  · refine Cd (a0.Kind == 2) ?_ ?_
    · intro hb; replace h := ctrue hb h
      refine Rg hT 4 [1, 8, 11] ⟨[(1, .box 1 1 0 0), (8, .ps .nil []), (11, vo 11 2 (s_string.F [a0.Name]))], [(11, ⟨2, 9, 1, false, false, s_string.F [a0.Name]⟩), (1, ⟨1, 36, 4, true, false, [eExpr a0]⟩)], 3⟩ ?_
      refine WO_weak (Weak_own 8 6012 9 1 (by kernel_rfl) (by kernel_rfl) (by kernel_rfl) (by kernel_rfl)) ?_
      obtain ⟨g3, h⟩ := gsome h
      refine WO_append' hT s_string rfl (by kernel_rfl) 6012 3 true ([] : List ByteArray) [a0.Name] rfl (by kernel_rfl) (by kernel_rfl) (elems_own s_string 11 2 true ⟨2, 9, 1, false, false, s_string.F [a0.Name]⟩ [a0.Name] (by kernel_rfl) (by kernel_rfl) rfl rfl rfl) g3 (by kernel_rfl) ?_
      refine Sg hT 1 [1, 3] ⟨[(1, .box 1 1 0 0), (3, vo 12 4 (s_string.F (([] : List ByteArray) ++ [a0.Name])))], [(12, ⟨4, 9, 1, false, true, s_string.F (([] : List ByteArray) ++ [a0.Name])⟩), (11, ⟨2, 9, 1, false, false, s_string.F [a0.Name]⟩), (1, ⟨1, 36, 4, true, false, [eExpr a0]⟩)], 5⟩ ?_
      exact oK [1, 3] [(1, 1, 1), (12, 10003, 1)] ⟨([] : List ByteArray) ++ [a0.Name], h, rfl⟩
    intro hb; replace h := cfalse hb h
    refine aW [1, 3] ⟨[(1, .box 1 1 0 0), (3, .ps .nil [])], [(1, ⟨1, 36, 4, true, false, [eExpr a0]⟩)], 2⟩ ?_
    refine WA_weak (Weak_own 3 5000 9 1 (by kernel_rfl) (by kernel_rfl) (by kernel_rfl) (by kernel_rfl)) ?_
    exact sK [1, 3] [(1, 1, 1), (5000, 10003, 1)] ⟨([] : List ByteArray), h, rfl⟩
  subst hJ2
  rintro s ⟨l1, h, rfl⟩
  refine WA_seq ?_
  refine Qzd hT 1 [1, 3, 4] [(4, vi 0)] ?_
  refine WA_block ?_
  refine lK [1, 3, 4] [(1, 1, 1), (10003, 10003, 1)] (fun k s => ∃ q, q ≤ k ∧ q ≤ n ∧ ∃ (l4 : List ByteArray), ∃ (i5 : Int), ref1_Names_L0 q a0 l1 l4 i5 = some r ∧ s = ⟨[(1, .box 1 1 0 0), (3, vo 10003 1 (s_string.F l4)), (4, vi i5)], [(1, ⟨1, 36, 4, true, false, [eExpr a0]⟩), (10003, ⟨1, 9, 1, false, true, s_string.F l4⟩)], 2⟩) n ⟨n, Nat.le_refl _, Nat.le_refl _, l1, 0, h, rfl⟩ (by rintro s ⟨q, hq, _, l4, i5, h, _⟩; obtain rfl := Nat.le_zero.1 hq; rw [ref1_Names_L0] at h; cases h) ?_
  clear h
  rintro k1 s ⟨q1, hk1, hn1, l4, i5, h, rfl⟩
  rcases q1 with _ | q1
  · rw [ref1_Names_L0] at h; cases h
  rw [ref1_Names_L0] at h
  refine WA_seq ?_
  refine Qgd hT 3 [1, 3, 4, 13, 15] [(13, vi i5), (15, .ps .opt (s_Expr.F a0.Of))] ?_
  refine One' hT rfl (ev_len s_Expr .opt a0.Of (by kernel_rfl)) ?_
  refine Szd hT 1 [1, 3, 4, 17] [(17, vb (decide (i5 < (ln a0.Of))))] ?_
  refine Cd (decide (i5 < (ln a0.Of))) ?_ ?_
  · intro hb; replace h := ctrue hb h
    refine WA_skip ?_
    refine WA_seq ?_
    refine WA_block ?_
    refine Rg hT 4 [1, 4, 20, 22, 23] ⟨[(1, .box 1 1 0 0), (4, vi i5), (20, vo 10003 1 (s_string.F l4)), (22, .ps .opt (s_Expr.F a0.Of)), (23, vi i5)], [(1, ⟨1, 36, 4, true, false, [eExpr a0]⟩), (10003, ⟨1, 9, 1, false, true, s_string.F l4⟩)], 2⟩ ?_
    obtain ⟨x6, hx6, h⟩ := bsome h
    refine One' hT rfl (ev_index s_Expr .opt a0.Of .i64 i5 hx6 (by decide) (by kernel_rfl) (by kernel_rfl)) ?_
    refine Sgd hT 1 [1, 4, 20, 25] [(25, eExpr x6)] ?_
    obtain ⟨r7, hr7, h⟩ := bsome h
    refine WO_go' rfl (by kernel_rfl) [] [(100, ⟨1, 9, 1, false, true, s_string.F r7⟩)] [eExpr x6] [eExpr x6] [] [(100, 26, 2)] [(26, ⟨2, 9, 1, false, true, s_string.F r7⟩)] (vo 100 1 (s_string.F r7)) (vo 26 2 (s_string.F r7)) 3 rfl (by kernel_rfl) en23 (by kernel_rfl) (by kernel_rfl) (by kernel_rfl) ((ih _ (by omega)) hr7) (by kernel_rfl) (by kernel_rfl) (by kernel_rfl) (by kernel_rfl) ?_
    refine Sgh hT 0 [1, 4, 20, 26] [(26, vo 26 2 (s_string.F r7))] [(26, ⟨2, 9, 1, false, true, s_string.F r7⟩), (1, ⟨1, 36, 4, true, false, [eExpr a0]⟩), (10003, ⟨1, 9, 1, false, true, s_string.F l4⟩)] 3 ?_
    obtain ⟨g8, h⟩ := gsome h
    refine WO_append' hT s_string rfl (by kernel_rfl) 10003 1 true l4 r7 rfl (by kernel_rfl) (by kernel_rfl) (elems_own s_string 26 2 true ⟨2, 9, 1, false, true, s_string.F r7⟩ r7 (by kernel_rfl) (by kernel_rfl) rfl rfl rfl) g8 (by kernel_rfl) ?_
    refine Szh hT 1 [1, 3, 4] [(3, vo 27 3 (s_string.F (l4 ++ r7)))] [(27, ⟨3, 9, 1, false, true, s_string.F (l4 ++ r7)⟩), (26, ⟨2, 9, 1, false, true, s_string.F r7⟩), (1, ⟨1, 36, 4, true, false, [eExpr a0]⟩)] 4 ?_
    refine Rgd hT 3 [1, 3, 4] [(4, vi (wr (i5 + 1)))] ?_
    exact oK [1, 3, 4] [(1, 1, 1), (27, 10003, 1)] ⟨_, by omega, by omega, l4 ++ r7, wr (i5 + 1), h, rfl⟩
  intro hb; replace h := cfalse hb h
  refine WA_exit ?_
  refine Qzd hT 2 [2] [(2, vo 10003 1 (s_string.F l4))] ?_
  obtain rfl := Option.some.inj h
  exact rK [2] [(10003, 100, 1)] ⟨[(2, vo 100 1 (s_string.F l4))], [(100, ⟨1, 9, 1, false, true, s_string.F l4⟩)], 2⟩ ⟨by kernel_rfl, by kernel_rfl, rfl⟩
theorem ref1_Names_all (n : Nat) : ref1_Names_spec n := by
  induction n using Nat.strongRecOn with
  | _ n ih => exact ref1_Names_step n ih
theorem ref1_Names_ok {n : Nat} {a0 : Expr} {r : List ByteArray} (h : ref1_Names n a0 = some r) : GO Try.prog 23 [] [eExpr a0] (vo 100 1 (s_string.F r)) [(100, ⟨1, 9, 1, false, true, s_string.F r⟩)] := (ref1_Names_all n) h

theorem ref1_Touches_ok {n : Nat} {a0 : Stmt} {r : List ByteArray} (h : ref1_Touches n a0 = some r) : GO Try.prog 21 [] [eStmt a0] (vo 100 1 (s_string.F r)) [(100, ⟨1, 9, 1, false, true, s_string.F r⟩)] := by
  unfold ref1_Touches at h
  refine GO_bodyA hT Try.func21 rfl [] (by kernel_rfl) fun bad w m => ?_
  refine Qz hT 2 [1] ⟨[(1, .box 1 1 0 0)], [(1, ⟨1, 39, 11, true, false, [eStmt a0]⟩)], 2⟩ ?_
  refine Qzd hT 1 [1, 3] [(3, .ps .nil [])] ?_
  refine WA_seq ?_
  refine Qzd hT 2 [1, 3, 5] [(5, vi a0.Kind)] ?_
  obtain ⟨J2, hJ2, h⟩ := jsome h
  refine WA_join (fun s => ∃ (l1 : List ByteArray), J2 l1 = some r ∧ s = ⟨[(1, .box 1 1 0 0), (3, vo 10003 1 (s_string.F l1))], [(1, ⟨1, 39, 11, true, false, [eStmt a0]⟩), (10003, ⟨1, 9, 1, false, true, s_string.F l1⟩)], 2⟩) ?_ ?_
  · refine WA_block ?_
    refine WA_seq ?_
    refine Qzd hT 2 [1, 3, 5, 6] [(6, vb (a0.Kind == 1))] ?_
    obtain ⟨J4, hJ4, h⟩ := jsome h
    refine WA_join (fun s => ∃ (b3 : Bool), J4 b3 = some r ∧ s = ⟨[(1, .box 1 1 0 0), (3, .ps .nil []), (6, vb b3)], [(1, ⟨1, 39, 11, true, false, [eStmt a0]⟩)], 2⟩) ?_ ?_
    · refine Cd (a0.Kind == 1) ?_ ?_
      · intro hb; replace h := ctrue hb h
        exact sK [1, 3, 6] [(1, 1, 1)] ⟨(a0.Kind == 1), h, rfl⟩
      intro hb; replace h := cfalse hb h
      refine Qzd hT 2 [1, 3, 5, 6] [(6, vb (a0.Kind == 4))] ?_
      refine Cd (a0.Kind == 4) ?_ ?_
      · intro hb; replace h := ctrue hb h
        exact sK [1, 3, 6] [(1, 1, 1)] ⟨(a0.Kind == 4), h, rfl⟩
      intro hb; replace h := cfalse hb h
      refine Qzd hT 2 [1, 3, 5, 6] [(6, vb (a0.Kind == 6))] ?_
      refine Cd (a0.Kind == 6) ?_ ?_
      · intro hb; replace h := ctrue hb h
        exact sK [1, 3, 6] [(1, 1, 1)] ⟨(a0.Kind == 6), h, rfl⟩
      intro hb; replace h := cfalse hb h
      refine Rgd hT 2 [1, 3, 6] [(6, vb (a0.Kind == 7))] ?_
      exact oK [1, 3, 6] [(1, 1, 1)] ⟨(a0.Kind == 7), h, rfl⟩
    subst hJ4
    rintro s ⟨b3, h, rfl⟩
    skip
    refine Cd b3 ?_ ?_
    · intro hb; replace h := ctrue hb h
      refine Rgd hT 2 [1, 12] [(12, eExpr a0.E)] ?_
      obtain ⟨r5, hr5, h⟩ := bsome h
      refine WO_go' rfl (by kernel_rfl) [] [(100, ⟨1, 9, 1, false, true, s_string.F r5⟩)] [eExpr a0.E] [eExpr a0.E] [] [(100, 13, 2)] [(13, ⟨2, 9, 1, false, true, s_string.F r5⟩)] (vo 100 1 (s_string.F r5)) (vo 13 2 (s_string.F r5)) 3 rfl (by kernel_rfl) en23 (by kernel_rfl) (by kernel_rfl) (by kernel_rfl) (ref1_Names_ok hr5) (by kernel_rfl) (by kernel_rfl) (by kernel_rfl) (by kernel_rfl) ?_
      refine Sg hT 1 [1, 3] ⟨[(1, .box 1 1 0 0), (3, vo 13 2 (s_string.F r5))], [(13, ⟨2, 9, 1, false, true, s_string.F r5⟩), (1, ⟨1, 39, 11, true, false, [eStmt a0]⟩)], 3⟩ ?_
      exact oK [1, 3] [(1, 1, 1), (13, 10003, 1)] ⟨r5, h, rfl⟩
    intro hb; replace h := cfalse hb h
    refine aW [1, 3] ⟨[(1, .box 1 1 0 0), (3, .ps .nil [])], [(1, ⟨1, 39, 11, true, false, [eStmt a0]⟩)], 2⟩ ?_
    refine WA_weak (Weak_own 3 5000 9 1 (by kernel_rfl) (by kernel_rfl) (by kernel_rfl) (by kernel_rfl)) ?_
    exact sK [1, 3] [(1, 1, 1), (5000, 10003, 1)] ⟨([] : List ByteArray), h, rfl⟩
  subst hJ2
  rintro s ⟨l1, h, rfl⟩
  refine WA_seq ?_
  refine Qzd hT 3 [1, 3, 16] [(16, vb (a0.Kind == 1))] ?_
  obtain ⟨J7, hJ7, h⟩ := jsome h
  refine WA_join (fun s => ∃ (l6 : List ByteArray), J7 l6 = some r ∧ s = ⟨[(1, .box 1 1 0 0), (3, vo 10003 1 (s_string.F l6))], [(1, ⟨1, 39, 11, true, false, [eStmt a0]⟩), (10003, ⟨1, 9, 1, false, true, s_string.F l6⟩)], 2⟩) ?_ ?_
  · refine Cd (a0.Kind == 1) ?_ ?_
    · intro hb; replace h := ctrue hb h
      refine Rg hT 4 [1, 17, 20] ⟨[(1, .box 1 1 0 0), (17, vo 10003 1 (s_string.F l1)), (20, vo 20 2 (s_string.F [a0.Name]))], [(20, ⟨2, 9, 1, false, false, s_string.F [a0.Name]⟩), (1, ⟨1, 39, 11, true, false, [eStmt a0]⟩), (10003, ⟨1, 9, 1, false, true, s_string.F l1⟩)], 3⟩ ?_
      obtain ⟨g8, h⟩ := gsome h
      refine WO_append' hT s_string rfl (by kernel_rfl) 10003 1 true l1 [a0.Name] rfl (by kernel_rfl) (by kernel_rfl) (elems_own s_string 20 2 true ⟨2, 9, 1, false, false, s_string.F [a0.Name]⟩ [a0.Name] (by kernel_rfl) (by kernel_rfl) rfl rfl rfl) g8 (by kernel_rfl) ?_
      refine Sg hT 1 [1, 3] ⟨[(1, .box 1 1 0 0), (3, vo 21 3 (s_string.F (l1 ++ [a0.Name])))], [(21, ⟨3, 9, 1, false, true, s_string.F (l1 ++ [a0.Name])⟩), (20, ⟨2, 9, 1, false, false, s_string.F [a0.Name]⟩), (1, ⟨1, 39, 11, true, false, [eStmt a0]⟩)], 4⟩ ?_
      exact oK [1, 3] [(1, 1, 1), (21, 10003, 1)] ⟨l1 ++ [a0.Name], h, rfl⟩
    intro hb; replace h := cfalse hb h
    exact sK [1, 3] [(1, 1, 1), (10003, 10003, 1)] ⟨l1, h, rfl⟩
  subst hJ7
  rintro s ⟨l6, h, rfl⟩
  refine WA_seq ?_
  refine Qzd hT 3 [1, 3, 24] [(24, vb (a0.Kind == 5))] ?_
  obtain ⟨J10, hJ10, h⟩ := jsome h
  refine WA_join (fun s => ∃ (l9 : List ByteArray), J10 l9 = some r ∧ s = ⟨[(3, vo 10003 1 (s_string.F l9))], [(10003, ⟨1, 9, 1, false, true, s_string.F l9⟩)], 2⟩) ?_ ?_
  · refine Cd (a0.Kind == 5) ?_ ?_
    · intro hb; replace h := ctrue hb h
      refine Rg hT 4 [25, 28] ⟨[(25, vo 10003 1 (s_string.F l6)), (28, vo 28 2 (s_string.F [a0.Other]))], [(28, ⟨2, 9, 1, false, false, s_string.F [a0.Other]⟩), (1, ⟨1, 39, 11, true, false, [eStmt a0]⟩), (10003, ⟨1, 9, 1, false, true, s_string.F l6⟩)], 3⟩ ?_
      obtain ⟨g11, h⟩ := gsome h
      refine WO_append' hT s_string rfl (by kernel_rfl) 10003 1 true l6 [a0.Other] rfl (by kernel_rfl) (by kernel_rfl) (elems_own s_string 28 2 true ⟨2, 9, 1, false, false, s_string.F [a0.Other]⟩ [a0.Other] (by kernel_rfl) (by kernel_rfl) rfl rfl rfl) g11 (by kernel_rfl) ?_
      refine Sg hT 1 [3] ⟨[(3, vo 29 3 (s_string.F (l6 ++ [a0.Other])))], [(29, ⟨3, 9, 1, false, true, s_string.F (l6 ++ [a0.Other])⟩), (28, ⟨2, 9, 1, false, false, s_string.F [a0.Other]⟩), (1, ⟨1, 39, 11, true, false, [eStmt a0]⟩)], 4⟩ ?_
      exact oK [3] [(29, 10003, 1)] ⟨l6 ++ [a0.Other], h, rfl⟩
    intro hb; replace h := cfalse hb h
    exact sK [3] [(10003, 10003, 1)] ⟨l6, h, rfl⟩
  subst hJ10
  rintro s ⟨l9, h, rfl⟩
  refine Qzd hT 2 [2] [(2, vo 10003 1 (s_string.F l9))] ?_
  obtain rfl := Option.some.inj h
  exact rK [2] [(10003, 100, 1)] ⟨[(2, vo 100 1 (s_string.F l9))], [(100, ⟨1, 9, 1, false, true, s_string.F l9⟩)], 2⟩ ⟨by kernel_rfl, by kernel_rfl, rfl⟩

theorem law3_sameTexts_ok {n : Nat} {a0 : List ByteArray} {a1 : List ByteArray} {r : Bool} (h : law3_sameTexts n a0 a1 = some r) : PT Try.prog 20 [.ps .opt (s_string.F a0), .ps .opt (s_string.F a1)] (vb r) := by
  unfold law3_sameTexts at h
  refine PT_bodyA hT Try.func20 rfl (by kernel_rfl) fun bad w => ?_
  refine Qzd hT 1 [0, 1] [] ?_
  refine WA_seq ?_
  refine Qgd hT 1 [0, 1, 6] [(6, .ps .opt (s_string.F a0))] ?_
  refine One' hT rfl (ev_len s_string .opt a0 (by kernel_rfl)) ?_
  refine Sgd hT 1 [0, 1, 7, 8] [(7, vi (ln a0)), (8, .ps .opt (s_string.F a1))] ?_
  refine One' hT rfl (ev_len s_string .opt a1 (by kernel_rfl)) ?_
  refine Szd hT 1 [0, 1, 10] [(10, vb ((ln a0) != (ln a1)))] ?_
  refine Cd ((ln a0) != (ln a1)) ?_ ?_
  · intro hb; replace h := ctrue hb h
    refine Qz hT 1 [4] ⟨[(4, vb false)], [], 0⟩ ?_
    obtain rfl := Option.some.inj h
    exact rK [4] [] ⟨[(4, vb false)], [], 1⟩ ⟨by kernel_rfl, rfl⟩
  intro hb; replace h := cfalse hb h
  refine WA_skip ?_
  refine WA_seq ?_
  refine Qgd hT 1 [0, 1, 11] [(11, .ps .opt (s_string.F a0))] ?_
  refine One' hT rfl (ev_len s_string .opt a0 (by kernel_rfl)) ?_
  refine Szd hT 1 [0, 1, 12, 13] [(12, vi (ln a0)), (13, vi 0)] ?_
  refine WA_block ?_
  refine lK [0, 1, 12, 13] [] (fun k s => ∃ q, q ≤ k ∧ q ≤ n ∧ ∃ (i1 : Int), law3_sameTexts_L0 q a0 a1 i1 = some r ∧ s = ⟨[(0, .ps .opt (s_string.F a0)), (1, .ps .opt (s_string.F a1)), (12, vi (ln a0)), (13, vi i1)], [], 1⟩) n ⟨n, Nat.le_refl _, Nat.le_refl _, 0, h, rfl⟩ (by rintro s ⟨q, hq, _, i1, h, _⟩; obtain rfl := Nat.le_zero.1 hq; rw [law3_sameTexts_L0] at h; cases h) ?_
  clear h
  rintro k1 s ⟨q1, hk1, hn1, i1, h, rfl⟩
  rcases q1 with _ | q1
  · rw [law3_sameTexts_L0] at h; cases h
  rw [law3_sameTexts_L0] at h
  refine Qzd hT 1 [0, 1, 12, 13, 14] [(14, vb (decide (i1 < (ln a0))))] ?_
  refine WA_seq ?_
  refine Cd (decide (i1 < (ln a0))) ?_ ?_
  · intro hb; replace h := ctrue hb h
    refine WA_skip ?_
    refine WA_seq ?_
    refine WA_block ?_
    refine Qzd hT 2 [0, 1, 5, 12, 13] [(5, vi i1)] ?_
    refine WA_seq ?_
    refine WA_drawW hT hM (by kernel_rfl) ?_
    refine Ds 2 [(17, vi i1), (16, .ps .opt (s_string.F a0))] [] [] ?_
    obtain ⟨x2, hx2, h⟩ := bsome h
    refine WD_loc' rfl (by kernel_rfl) (by kernel_rfl) (by kernel_rfl) (ev_index s_string .opt a0 .i64 i1 hx2 (by decide) (by kernel_rfl) (by kernel_rfl)) (by kernel_rfl) ?_
    refine Dt (.ref (e_s x2) 0) ?_
    refine Ds 3 [(21, vi i1), (20, .ps .opt (s_string.F a1)), (19, vw x2)] [] [] ?_
    obtain ⟨x3, hx3, h⟩ := bsome h
    refine WD_loc' rfl (by kernel_rfl) (by kernel_rfl) (by kernel_rfl) (ev_index s_string .opt a1 .i64 i1 hx3 (by decide) (by kernel_rfl) (by kernel_rfl)) (by kernel_rfl) ?_
    refine Dt (.ref (e_s x3) 0) ?_
    refine Ds 2 [(24, vb (!bytesEq x2 x3)), (23, vw x3)] [] [] ?_
    refine WD_end (by kernel_rfl) (by kernel_rfl) (by kernel_rfl) ?_
    refine Wk_done ?_
    refine Cd (!bytesEq x2 x3) ?_ ?_
    · intro hb; replace h := ctrue hb h
      refine Qz hT 1 [4] ⟨[(4, vb false)], [], 1⟩ ?_
      obtain rfl := Option.some.inj h
      exact rK [4] [] ⟨[(4, vb false)], [], 1⟩ ⟨by kernel_rfl, rfl⟩
    intro hb; replace h := cfalse hb h
    refine WA_skip ?_
    refine Rgd hT 2 [0, 1, 12, 13] [(13, vi (wr (i1 + 1)))] ?_
    exact oK [0, 1, 12, 13] [] ⟨_, by omega, by omega, wr (i1 + 1), h, rfl⟩
  intro hb; replace h := cfalse hb h
  refine WA_exit ?_
  refine Qz hT 1 [4] ⟨[(4, vb true)], [], 1⟩ ?_
  obtain rfl := Option.some.inj h
  exact rK [4] [] ⟨[(4, vb true)], [], 1⟩ ⟨by kernel_rfl, rfl⟩

theorem Clone_Decl_ok {n : Nat} {a0 : List Decl} {r : List Decl} (h : Clone_Decl n a0 = some r) : GO Try.prog 28 [] [.ps .opt (s_Decl.F a0)] (vo 100 1 (s_Decl.F r)) [(100, ⟨1, 42, 4, false, true, s_Decl.F r⟩)] := by
  unfold Clone_Decl at h
  refine GO_bodyA hT Try.func28 rfl [] (by kernel_rfl) fun bad w m => ?_
  refine Qzd hT 1 [0] [] ?_
  refine WA_seq ?_
  refine Qgd hT 1 [0, 3] [(3, .ps .opt (s_Decl.F a0))] ?_
  refine WO_isnil' hT s_Decl rfl (by kernel_rfl) .opt a0 rfl (by kernel_rfl) (by kernel_rfl) ?_
  intro b1 hnil
  cases b1
  · clear hnil
    refine Szh hT 0 [0, 4] [(4, vb false)] [] 1 ?_
    refine WA_cond false (by kernel_rfl) (fun hb => by cases hb) (fun _ => ?_)
    refine WA_skip ?_
    refine Qg hT 2 [5, 6] ⟨[(5, vo 5 1 (s_Decl.F ([] : List Decl))), (6, .ps .opt (s_Decl.F a0))], [(5, ⟨1, 42, 4, false, false, s_Decl.F ([] : List Decl)⟩)], 2⟩ ?_
    obtain ⟨g2, h⟩ := gsome h
    refine WO_append' hT s_Decl rfl (by kernel_rfl) 5 1 false ([] : List Decl) a0 rfl (by kernel_rfl) (by kernel_rfl) (by kernel_rfl) g2 (by kernel_rfl) ?_
    refine Sz hT 1 [2] ⟨[(2, vo 7 2 (s_Decl.F (([] : List Decl) ++ a0)))], [(7, ⟨2, 42, 4, false, true, s_Decl.F (([] : List Decl) ++ a0)⟩)], 3⟩ ?_
    obtain rfl := Option.some.inj h
    exact rK [2] [(7, 100, 1)] ⟨[(2, vo 100 1 (s_Decl.F (([] : List Decl) ++ a0)))], [(100, ⟨1, 42, 4, false, true, s_Decl.F (([] : List Decl) ++ a0)⟩)], 2⟩ ⟨by kernel_rfl, by kernel_rfl, rfl⟩
  · replace h : some ([] : List Decl) = some r := by (have e := hnil rfl; subst e; first | exact h | (obtain ⟨_, h⟩ := gsome h; simpa using h))
    clear hnil
    refine Szh hT 0 [0, 4] [(4, vb true)] [] 1 ?_
    refine WA_cond true (by kernel_rfl) (fun _ => ?_) (fun hb => by cases hb)
    refine Qz hT 1 [2] ⟨[(2, .ps .nil [])], [], 1⟩ ?_
    refine aW [2] ⟨[(2, .ps .nil [])], [], 1⟩ ?_
    refine WA_weak (Weak_own 2 5000 42 4 (by kernel_rfl) (by kernel_rfl) (by kernel_rfl) (by kernel_rfl)) ?_
    obtain rfl := Option.some.inj h
    exact rK [2] [(5000, 100, 1)] ⟨[(2, vo 100 1 (s_Decl.F ([] : List Decl)))], [(100, ⟨1, 42, 4, false, true, s_Decl.F ([] : List Decl)⟩)], 2⟩ ⟨by kernel_rfl, by kernel_rfl, rfl⟩

theorem Clip_Decl_ok {n : Nat} {a0 : List Decl} {r : List Decl} (h : Clip_Decl n a0 = some r) : PT Try.prog 27 [.ps .opt (s_Decl.F a0)] (.ps .fopt (s_Decl.F r)) := by
  unfold Clip_Decl at h
  refine PT_bodyA hT Try.func27 rfl (by kernel_rfl) fun bad w => ?_
  refine Qzd hT 1 [0] [] ?_
  refine Qgd hT 2 [0, 3, 4] [(3, .ps .opt (s_Decl.F a0)), (4, .ps .opt (s_Decl.F a0))] ?_
  refine One' hT rfl (ev_len s_Decl .opt a0 (by kernel_rfl)) ?_
  refine Sgd hT 1 [3, 5, 6] [(5, vi (ln a0)), (6, .ps .opt (s_Decl.F a0))] ?_
  refine One' hT rfl (ev_len s_Decl .opt a0 (by kernel_rfl)) ?_
  refine Sgd hT 0 [3, 5, 7] [(7, vi (ln a0))] ?_
  obtain ⟨l1, hl1, h⟩ := bsome h
  refine One' hT rfl (ev_slice s_Decl .opt a0 0 (ln a0) (some (ln a0)) l1 .fopt hl1 (by kernel_rfl) (by kernel_rfl) (by kernel_rfl) (by kernel_rfl) (by intro y hy; cases hy; rfl) rfl rfl (by decide)) ?_
  refine Sz hT 1 [2] ⟨[(2, .ps .fopt (s_Decl.F l1))], [], 0⟩ ?_
  obtain rfl := Option.some.inj h
  exact rK [2] [] ⟨[(2, .ps .fopt (s_Decl.F l1))], [], 1⟩ ⟨by kernel_rfl, rfl⟩

theorem Clip_LStmt_ok {n : Nat} {a0 : List (List Stmt)} {r : List (List Stmt)} (h : Clip_LStmt n a0 = some r) : PT Try.prog 30 [.ps .opt (s_LStmt.F a0)] (.ps .fopt (s_LStmt.F r)) := by
  unfold Clip_LStmt at h
  refine PT_bodyA hT Try.func30 rfl (by kernel_rfl) fun bad w => ?_
  refine Qzd hT 1 [0] [] ?_
  refine Qgd hT 2 [0, 3, 4] [(3, .ps .opt (s_LStmt.F a0)), (4, .ps .opt (s_LStmt.F a0))] ?_
  refine One' hT rfl (ev_len s_LStmt .opt a0 (by kernel_rfl)) ?_
  refine Sgd hT 1 [3, 5, 6] [(5, vi (ln a0)), (6, .ps .opt (s_LStmt.F a0))] ?_
  refine One' hT rfl (ev_len s_LStmt .opt a0 (by kernel_rfl)) ?_
  refine Sgd hT 0 [3, 5, 7] [(7, vi (ln a0))] ?_
  obtain ⟨l1, hl1, h⟩ := bsome h
  refine One' hT rfl (ev_slice s_LStmt .opt a0 0 (ln a0) (some (ln a0)) l1 .fopt hl1 (by kernel_rfl) (by kernel_rfl) (by kernel_rfl) (by kernel_rfl) (by intro y hy; cases hy; rfl) rfl rfl (by decide)) ?_
  refine Sz hT 1 [2] ⟨[(2, .ps .fopt (s_LStmt.F l1))], [], 0⟩ ?_
  obtain rfl := Option.some.inj h
  exact rK [2] [] ⟨[(2, .ps .fopt (s_LStmt.F l1))], [], 1⟩ ⟨by kernel_rfl, rfl⟩

theorem tree_Copy_ok {n : Nat} {a0 : Prog} {r : Prog} (h : tree_Copy n a0 = some r) : PT Try.prog 8 [eProg a0] (eProg r) := by
  unfold tree_Copy at h
  refine PT_bodyA hT Try.func8 rfl (by kernel_rfl) fun bad w => ?_
  refine Qz hT 2 [1, 2] ⟨[(1, .box 1 0 0 0), (2, .box 2 1 0 0)], [(2, ⟨1, 26, 2, true, false, [.agg [.ps .nil [], .ps .nil []]]⟩), (1, ⟨0, 26, 2, true, false, [eProg a0]⟩)], 2⟩ ?_
  refine Qgd hT 2 [1, 2, 7] [(7, .ps .opt (s_Decl.F a0.Decls))] ?_
  obtain ⟨r1, hr1, h⟩ := bsome h
  refine WO_go' rfl (by kernel_rfl) [] [(100, ⟨1, 42, 4, false, true, s_Decl.F r1⟩)] [.ps .opt (s_Decl.F a0.Decls)] [.ps .opt (s_Decl.F a0.Decls)] [] [(100, 8, 2)] [(8, ⟨2, 42, 4, false, true, s_Decl.F r1⟩)] (vo 100 1 (s_Decl.F r1)) (vo 8 2 (s_Decl.F r1)) 3 rfl (by kernel_rfl) en28 (by kernel_rfl) (by kernel_rfl) (by kernel_rfl) (Clone_Decl_ok hr1) (by kernel_rfl) (by kernel_rfl) (by kernel_rfl) (by kernel_rfl) ?_
  refine Sgh hT 0 [1, 2, 8] [(8, vo 8 2 (s_Decl.F r1))] [(8, ⟨2, 42, 4, false, true, s_Decl.F r1⟩), (2, ⟨1, 26, 2, true, false, [.agg [.ps .nil [], .ps .nil []]]⟩), (1, ⟨0, 26, 2, true, false, [eProg a0]⟩)] 3 ?_
  refine WO_weak (Weak_frz 8 2 ⟨2, 42, 4, false, true, s_Decl.F r1⟩ (by kernel_rfl) rfl rfl [(1, .box 1 0 0 0), (2, .box 2 1 0 0), (8, .ps .opt (s_Decl.F r1))] [(2, ⟨1, 26, 2, true, false, [.agg [.ps .nil [], .ps .nil []]]⟩), (1, ⟨0, 26, 2, true, false, [eProg a0]⟩)] ⟨rfl, .keep _, rfl, .keep _, rfl, .hit true, trivial⟩ ⟨rfl, .inl rfl, rfl, .inl rfl, trivial⟩) ?_
  obtain ⟨r2, hr2, h⟩ := bsome h
  refine Pt' en27 (Clip_Decl_ok hr2) ?_
  refine Szh hT 3 [1, 2, 3] [(3, .box 3 3 0 0)] [(3, ⟨3, 26, 2, true, false, [.agg [.ps .fopt (s_Decl.F r2), .ps .nil []]]⟩), (2, ⟨1, 26, 2, true, false, [.agg [.ps .nil [], .ps .nil []]]⟩), (1, ⟨0, 26, 2, true, false, [eProg a0]⟩)] 4 ?_
  refine WA_seq ?_
  refine Qgd hT 2 [2, 3, 12] [(12, .ps .opt (s_LStmt.F a0.Threads))] ?_
  refine One' hT rfl (ev_len s_LStmt .opt a0.Threads (by kernel_rfl)) ?_
  refine Szd hT 1 [2, 3, 12, 13, 14] [(13, vi (ln a0.Threads)), (14, vi 0)] ?_
  refine WA_block ?_
  refine aW [2, 3, 12, 13, 14] ⟨[(2, .box 2 1 0 0), (3, .box 3 3 0 0), (12, .ps .opt (s_LStmt.F a0.Threads)), (13, vi (ln a0.Threads)), (14, vi 0)], [(3, ⟨3, 26, 2, true, false, [.agg [.ps .fopt (s_Decl.F r2), .ps .nil []]]⟩), (2, ⟨1, 26, 2, true, false, [.agg [.ps .nil [], .ps .nil []]]⟩), (1, ⟨0, 26, 2, true, false, [eProg a0]⟩)], 4⟩ ?_
  refine WA_weak (Weak_ownH 3 5000 1 ⟨3, 26, 2, true, false, [.agg [.ps .fopt (s_Decl.F r2), .ps .nil []]]⟩ (.agg [.ps .fopt (s_Decl.F r2), .ps .nil []]) (.agg [.ps .fopt (s_Decl.F r2), vo 5000 4 (s_LStmt.F ([] : List (List Stmt)))]) 29 1 (by kernel_rfl) (by kernel_rfl) (by kernel_rfl) (by kernel_rfl) (by kernel_rfl) (by kernel_rfl) (by kernel_rfl)) ?_
  refine lR [(2, 2, 0), (3, 3, 0), (5000, 12503, 0)] (fun k s => ∃ q, q ≤ k ∧ q ≤ n ∧ ∃ (l3 : List (List Stmt)), ∃ (i4 : Int), tree_Copy_L0 q a0 r1 r2 l3 i4 = some r ∧ s = ⟨[(2, .box 2 0 0 0), (3, .box 3 0 0 0), (12, .ps .opt (s_LStmt.F a0.Threads)), (13, vi (ln a0.Threads)), (14, vi i4)], [(2, ⟨0, 26, 2, true, false, [.agg [.ps .nil [], .ps .nil []]]⟩), (3, ⟨0, 26, 2, true, false, [.agg [.ps .fopt (s_Decl.F r2), vo 12503 0 (s_LStmt.F l3)]]⟩), (12503, ⟨0, 29, 1, false, true, s_LStmt.F l3⟩)], 1⟩) n ⟨n, Nat.le_refl _, Nat.le_refl _, ([] : List (List Stmt)), 0, h, rfl⟩ (by rintro s ⟨q, hq, _, l3, i4, h, _⟩; obtain rfl := Nat.le_zero.1 hq; rw [tree_Copy_L0] at h; cases h) ?_
  clear h
  rintro k1 s ⟨q1, hk1, hn1, l3, i4, h, rfl⟩
  rcases q1 with _ | q1
  · rw [tree_Copy_L0] at h; cases h
  rw [tree_Copy_L0] at h
  refine Qzd hT 1 [2, 3, 12, 13, 14, 15] [(15, vb (decide (i4 < (ln a0.Threads))))] ?_
  refine WA_seq ?_
  refine Cd (decide (i4 < (ln a0.Threads))) ?_ ?_
  · intro hb; replace h := ctrue hb h
    refine WA_skip ?_
    refine WA_seq ?_
    refine WA_block ?_
    refine Qgd hT 0 [2, 3, 12, 13, 14] [] ?_
    obtain ⟨x5, hx5, h⟩ := bsome h
    refine One' hT rfl (ev_index s_LStmt .opt a0.Threads .i64 i4 hx5 (by decide) (by kernel_rfl) (by kernel_rfl)) ?_
    refine Szd hT 2 [2, 3, 5, 12, 13, 14] [(5, .ps .opt (s_Stmt.F x5))] ?_
    refine WA_drawW hT hM (by kernel_rfl) ?_
    refine Ds 3 [(20, .ps .opt (s_Stmt.F x5)), (19, vo 12503 0 (s_LStmt.F l3)), (18, .box 3 0 0 1)] [] [(0, [3]), (1, [3])] ?_
    obtain ⟨r6, hr6, h⟩ := bsome h
    refine WD_pt' rfl (by kernel_rfl) (by kernel_rfl) [.ps .opt (s_Stmt.F x5)] (.ps .opt (s_Stmt.F r6)) rfl (by kernel_rfl) en29 (by kernel_rfl) (PT_of_GO (tree_copyBlock_ok hr6)) (by kernel_rfl) ?_
    refine Ds 1 [(22, .ps .full (s_LStmt.F [r6]))] [] [] ?_
    obtain ⟨g7, h⟩ := gsome h
    refine WD_wr' rfl (by kernel_rfl) (by kernel_rfl) (by kernel_rfl) (ev_append s_LStmt 12503 0 true l3 [r6] (by kernel_rfl) (by kernel_rfl) (by kernel_rfl) (by simp) g7) (by kernel_rfl) ?_
    refine Dh 2 [(24, .box 3 0 0 1)] [(3, ⟨0, 26, 2, true, false, [.agg [.ps .fopt (s_Decl.F r2), vo 23 1 (s_LStmt.F (l3 ++ [r6]))]]⟩), (23, ⟨1, 29, 1, false, false, s_LStmt.F (l3 ++ [r6])⟩), (2, ⟨0, 26, 2, true, false, [.agg [.ps .nil [], .ps .nil []]]⟩)] 2 [(7, [3])] [(6, [3])] ?_
    refine WD_end (by kernel_rfl) (by kernel_rfl) (by kernel_rfl) ?_
    refine Wk_done ?_
    refine Rgd hT 2 [2, 3, 12, 13, 14] [(14, vi (wr (i4 + 1)))] ?_
    refine oW [2, 3, 12, 13, 14] ⟨[(2, .box 2 0 0 0), (3, .box 3 0 0 0), (12, .ps .opt (s_LStmt.F a0.Threads)), (13, vi (ln a0.Threads)), (14, vi (wr (i4 + 1)))], [(3, ⟨0, 26, 2, true, false, [.agg [.ps .fopt (s_Decl.F r2), vo 23 1 (s_LStmt.F (l3 ++ [r6]))]]⟩), (23, ⟨1, 29, 1, false, false, s_LStmt.F (l3 ++ [r6])⟩), (2, ⟨0, 26, 2, true, false, [.agg [.ps .nil [], .ps .nil []]]⟩)], 2⟩ ?_
    refine WO_weak (Weak_leH [(2, .box 2 0 0 0), (3, .box 3 0 0 0), (12, .ps .opt (s_LStmt.F a0.Threads)), (13, vi (ln a0.Threads)), (14, vi (wr (i4 + 1)))] [(3, ⟨0, 26, 2, true, false, [.agg [.ps .fopt (s_Decl.F r2), vo 23 1 (s_LStmt.F (l3 ++ [r6]))]]⟩), (23, ⟨1, 29, 1, false, true, s_LStmt.F (l3 ++ [r6])⟩), (2, ⟨0, 26, 2, true, false, [.agg [.ps .nil [], .ps .nil []]]⟩)] (by kernel_rfl) ⟨VLf.refl _, VLf.refl _, VLf.refl _, VLf.refl _, VLf.refl _, trivial⟩ ⟨rfl, .inl rfl, rfl, .inr (.inr rfl), rfl, .inl rfl, trivial⟩) ?_
    exact oR [(2, 2, 0), (3, 3, 0), (23, 12503, 0)] ⟨_, by omega, by omega, l3 ++ [r6], wr (i4 + 1), h, rfl⟩
  intro hb; replace h := cfalse hb h
  refine WA_exit ?_
  refine Qg hT 2 [2, 3, 27] ⟨[(2, .box 2 0 0 0), (3, .box 3 0 0 0), (27, vo 12503 0 (s_LStmt.F l3))], [(2, ⟨0, 26, 2, true, false, [.agg [.ps .nil [], .ps .nil []]]⟩), (3, ⟨0, 26, 2, true, false, [.agg [.ps .fopt (s_Decl.F r2), vo 12503 0 (s_LStmt.F l3)]]⟩), (12503, ⟨0, 29, 1, false, true, s_LStmt.F l3⟩)], 1⟩ ?_
  refine WO_weak (Weak_frz 12503 0 ⟨0, 29, 1, false, true, s_LStmt.F l3⟩ (by kernel_rfl) rfl rfl [(2, .box 2 0 0 0), (3, .box 3 0 0 0), (27, .ps .opt (s_LStmt.F l3))] [(2, ⟨0, 26, 2, true, false, [.agg [.ps .nil [], .ps .nil []]]⟩), (3, ⟨0, 26, 2, true, false, [.agg [.ps .fopt (s_Decl.F r2), .ps .opt (s_LStmt.F l3)]]⟩)] ⟨rfl, .keep _, rfl, .keep _, rfl, .hit true, trivial⟩ ⟨rfl, .inl rfl, rfl, .inr ⟨rfl, rfl, .aggs ⟨.keep _, .hit true, trivial⟩, trivial⟩, trivial⟩) ?_
  obtain ⟨r8, hr8, h⟩ := bsome h
  refine Pt' en30 (Clip_LStmt_ok hr8) ?_
  refine Szh hT 2 [2, 3] [] [(3, ⟨0, 26, 2, true, false, [.agg [.ps .fopt (s_Decl.F r2), .ps .fopt (s_LStmt.F r8)]]⟩), (2, ⟨0, 26, 2, true, false, [.agg [.ps .nil [], .ps .nil []]]⟩)] 1 ?_
  refine Qz hT 2 [2] ⟨[(2, .box 2 0 0 0)], [(2, ⟨0, 26, 2, true, false, [.agg [.ps .fopt (s_Decl.F r2), .ps .fopt (s_LStmt.F r8)]]⟩), (3, ⟨0, 26, 2, true, false, [.agg [.ps .fopt (s_Decl.F r2), .ps .fopt (s_LStmt.F r8)]]⟩)], 1⟩ ?_
  refine aW [2] ⟨[(2, .box 2 0 0 0)], [(2, ⟨0, 26, 2, true, false, [.agg [.ps .fopt (s_Decl.F r2), .ps .fopt (s_LStmt.F r8)]]⟩), (3, ⟨0, 26, 2, true, false, [.agg [.ps .fopt (s_Decl.F r2), .ps .fopt (s_LStmt.F r8)]]⟩)], 1⟩ ?_
  refine WA_weak (Weak_leH [(2, .box 2 0 0 0)] [(2, ⟨0, 26, 2, true, false, [eProg (Prog.mk r2 r8)]⟩), (3, ⟨0, 26, 2, true, false, [.agg [.ps .fopt (s_Decl.F r2), .ps .fopt (s_LStmt.F r8)]]⟩)] (by kernel_rfl) ⟨VLf.refl _, trivial⟩ ⟨rfl, .inr (.inl ⟨rfl, rfl, CLe.agg ⟨(VLe.f VLe.fopt_opt rfl), (VLe.f VLe.fopt_opt rfl), trivial⟩, trivial⟩), rfl, .inl rfl, trivial⟩) ?_
  obtain rfl := Option.some.inj h
  exact rR [(2, 1000, 0)] ⟨[(2, .box 1000 0 0 0)], [(1000, ⟨0, 26, 2, true, false, [eProg (Prog.mk r2 r8)]⟩)], 1⟩ ⟨by kernel_rfl, rfl⟩

theorem law3_TreeTells_ok {n : Nat} {a0 : Int} {a1 : Int} {a2 : List Act} {a3 : List Act} {a4 : List Act} {a5 : List Act} {r : Bool} (h : law3_TreeTells n a0 a1 a2 a3 a4 a5 = some r) : PT Try.prog 6 [vi a0, vi a1, .ps .opt (s_Act.F a2), .ps .opt (s_Act.F a3), .ps .opt (s_Act.F a4), .ps .opt (s_Act.F a5)] (vb r) := by
  unfold law3_TreeTells at h
  refine PT_bodyA hT Try.func6 rfl (by kernel_rfl) fun bad w => ?_
  refine Qzd hT 1 [0, 1, 2, 3, 4, 5] [] ?_
  refine Qgd hT 4 [1, 2, 4, 5, 20, 21, 22, 23] [(20, vi a0), (21, .ps .opt (s_Act.F a2)), (22, .ps .opt (s_Act.F a3)), (23, .ps .opt (s_Act.F a4))] ?_
  obtain ⟨r1, hr1, h⟩ := bsome h
  refine WO_go' rfl (by kernel_rfl) [] [(100, ⟨1, 29, 1, false, true, s_LStmt.F r1.Threads⟩)] [vi a0, .ps .opt (s_Act.F a2), .ps .opt (s_Act.F a3), .ps .opt (s_Act.F a4), vi 4] [vi a0, .ps .opt (s_Act.F a2), .ps .opt (s_Act.F a3), .ps .opt (s_Act.F a4), vi 4] [] [(100, 24, 0)] [(24, ⟨0, 29, 1, false, true, s_LStmt.F r1.Threads⟩)] (.agg [.ps .opt (s_Decl.F r1.Decls), vo 100 1 (s_LStmt.F r1.Threads)]) (.agg [.ps .opt (s_Decl.F r1.Decls), vo 24 0 (s_LStmt.F r1.Threads)]) 1 rfl (by kernel_rfl) en7 (by kernel_rfl) (by kernel_rfl) (by kernel_rfl) (hand_Prog_ok hr1) (by kernel_rfl) (by kernel_rfl) (by kernel_rfl) (by kernel_rfl) ?_
  refine Szh hT 2 [1, 2, 4, 5, 13] [(13, .box 13 1 0 0)] [(13, ⟨1, 26, 2, true, false, [.agg [.ps .opt (s_Decl.F r1.Decls), vo 24 0 (s_LStmt.F r1.Threads)]]⟩), (24, ⟨0, 29, 1, false, true, s_LStmt.F r1.Threads⟩)] 2 ?_
  refine Qgd hT 4 [13, 25, 26, 27, 28] [(25, vi a1), (26, .ps .opt (s_Act.F a2)), (27, .ps .opt (s_Act.F a5)), (28, .ps .opt (s_Act.F a4))] ?_
  obtain ⟨r2, hr2, h⟩ := bsome h
  refine WO_go' rfl (by kernel_rfl) [] [(100, ⟨1, 29, 1, false, true, s_LStmt.F r2.Threads⟩)] [vi a1, .ps .opt (s_Act.F a2), .ps .opt (s_Act.F a5), .ps .opt (s_Act.F a4), vi 4] [vi a1, .ps .opt (s_Act.F a2), .ps .opt (s_Act.F a5), .ps .opt (s_Act.F a4), vi 4] [] [(100, 29, 2)] [(29, ⟨2, 29, 1, false, true, s_LStmt.F r2.Threads⟩)] (.agg [.ps .opt (s_Decl.F r2.Decls), vo 100 1 (s_LStmt.F r2.Threads)]) (.agg [.ps .opt (s_Decl.F r2.Decls), vo 29 2 (s_LStmt.F r2.Threads)]) 3 rfl (by kernel_rfl) en7 (by kernel_rfl) (by kernel_rfl) (by kernel_rfl) (hand_Prog_ok hr2) (by kernel_rfl) (by kernel_rfl) (by kernel_rfl) (by kernel_rfl) ?_
  refine Sz hT 2 [13, 14] ⟨[(13, .box 13 1 0 0), (14, .box 14 3 0 0)], [(14, ⟨3, 26, 2, true, false, [.agg [.ps .opt (s_Decl.F r2.Decls), vo 29 2 (s_LStmt.F r2.Threads)]]⟩), (29, ⟨2, 29, 1, false, true, s_LStmt.F r2.Threads⟩), (13, ⟨1, 26, 2, true, false, [.agg [.ps .opt (s_Decl.F r1.Decls), vo 24 0 (s_LStmt.F r1.Threads)]]⟩), (24, ⟨0, 29, 1, false, true, s_LStmt.F r1.Threads⟩)], 4⟩ ?_
  refine WA_seq ?_
  refine WA_seq ?_
  obtain ⟨J4, hJ4, h⟩ := jsome h
  refine WA_join (fun s => ∃ (b3 : Bool), J4 b3 = some r ∧ s = ⟨[(13, .box 13 0 0 0), (46, vb b3)], [(13, ⟨0, 26, 2, true, false, [eProg r1]⟩)], 1⟩) ?_ ?_
  · refine WA_weak (Weak_frz 24 0 ⟨0, 29, 1, false, true, s_LStmt.F r1.Threads⟩ (by kernel_rfl) rfl rfl [(13, .box 13 1 0 0), (14, .box 14 3 0 0)] [(14, ⟨3, 26, 2, true, false, [.agg [.ps .opt (s_Decl.F r2.Decls), vo 29 2 (s_LStmt.F r2.Threads)]]⟩), (29, ⟨2, 29, 1, false, true, s_LStmt.F r2.Threads⟩), (13, ⟨1, 26, 2, true, false, [eProg r1]⟩)] ⟨rfl, .keep _, rfl, .keep _, trivial⟩ ⟨rfl, .inl rfl, rfl, .inl rfl, rfl, .inr ⟨rfl, rfl, .aggs ⟨.keep _, .hit true, trivial⟩, trivial⟩, trivial⟩) ?_
    refine WA_weak (Weak_frz 29 2 ⟨2, 29, 1, false, true, s_LStmt.F r2.Threads⟩ (by kernel_rfl) rfl rfl [(13, .box 13 1 0 0), (14, .box 14 3 0 0)] [(14, ⟨3, 26, 2, true, false, [eProg r2]⟩), (13, ⟨1, 26, 2, true, false, [eProg r1]⟩)] ⟨rfl, .keep _, rfl, .keep _, trivial⟩ ⟨rfl, .inr ⟨rfl, rfl, .aggs ⟨.keep _, .hit true, trivial⟩, trivial⟩, rfl, .inl rfl, trivial⟩) ?_
    refine WA_drawW hT hM (by kernel_rfl) ?_
    obtain ⟨r5, hr5, h⟩ := bsome h
    refine WD_pt' rfl (by kernel_rfl) (by kernel_rfl) [] (vb r5) rfl (by kernel_rfl) en10 (by kernel_rfl) (law3_known_ok hr5) (by kernel_rfl) ?_
    refine Ds 2 [(32, vb (!r5)), (31, vb (!r5))] [] [] ?_
    cases hb : (!r5 : Bool)
    · replace h := cfalse hb h
      refine Ds 2 [(34, eProg r2), (33, eProg r1)] [] [(3, [13]), (4, [14])] ?_
      obtain ⟨r6, hr6, h⟩ := bsome h
      refine WD_pt' rfl (by kernel_rfl) (by kernel_rfl) [eProg r1, eProg r2] (vb r6) rfl (by kernel_rfl) en11 (by kernel_rfl) (tree_Same_ok hr6) (by kernel_rfl) ?_
      refine Ds 2 [(37, eProg r2), (36, eProg r1)] [] [(6, [13]), (7, [14])] ?_
      obtain ⟨r7, hr7, h⟩ := bsome h
      refine WD_pt' rfl (by kernel_rfl) (by kernel_rfl) [eProg r1, eProg r2] (vb r7) rfl (by kernel_rfl) en17 (by kernel_rfl) (ref1_Same_ok hr7) (by kernel_rfl) ?_
      refine Ds 3 [(41, vb (!(r6 == r7))), (40, vb (!(r6 == r7))), (39, vb (!(r6 == r7)))] [] [] ?_
      cases hb : (!(r6 == r7) : Bool)
      · replace h := cfalse hb h
        refine Ds 2 [(43, eProg r1), (42, eProg r1)] [] [(12, [13]), (13, [13])] ?_
        obtain ⟨r8, hr8, h⟩ := bsome h
        refine WD_pt' rfl (by kernel_rfl) (by kernel_rfl) [eProg r1, eProg r1] (vb r8) rfl (by kernel_rfl) en11 (by kernel_rfl) (tree_Same_ok hr8) (by kernel_rfl) ?_
        refine Ds 2 [(46, vb (!r8)), (45, vb (!r8))] [] [] ?_
        refine WD_end (by kernel_rfl) (by kernel_rfl) (by kernel_rfl) ?_
        exact wK [13, 46] [(13, 13, 0)] ⟨!r8, h, rfl⟩
      replace h := ctrue hb h
      refine Ds 5 [(46, vb true), (45, .p Go.undef), (44, .p Go.undef), (43, .p Go.undef), (42, .p Go.undef)] [] [] ?_
      refine WD_end (by kernel_rfl) (by kernel_rfl) (by kernel_rfl) ?_
      exact wK [13, 46] [(13, 13, 0)] ⟨true, h, rfl⟩
    replace h := ctrue hb h
    refine Ds 14 [(46, vb true), (45, .p Go.undef), (44, .p Go.undef), (43, .p Go.undef), (42, .p Go.undef), (41, vb true), (40, vb true), (39, .p Go.undef), (38, .p Go.undef), (37, .p Go.undef), (36, .p Go.undef), (35, .p Go.undef), (34, .p Go.undef), (33, .p Go.undef)] [] [] ?_
    refine WD_end (by kernel_rfl) (by kernel_rfl) (by kernel_rfl) ?_
    exact wK [13, 46] [(13, 13, 0)] ⟨true, h, rfl⟩
  subst hJ4
  rintro s ⟨b3, h, rfl⟩
  refine Cd b3 ?_ ?_
  · intro hb; replace h := ctrue hb h
    refine Qzd hT 1 [12] [(12, vb false)] ?_
    obtain rfl := Option.some.inj h
    exact rK [12] [] ⟨[(12, vb false)], [], 1⟩ ⟨by kernel_rfl, rfl⟩
  intro hb; replace h := cfalse hb h
  refine WA_skip ?_
  refine Qgd hT 1 [13, 47] [(47, eProg r1)] ?_
  obtain ⟨r9, hr9, h⟩ := bsome h
  refine Pt' en9 (tree_List_ok hr9) ?_
  refine Szd hT 1 [13, 15] [(15, .ps .fopt (s_Stmt.F r9))] ?_
  refine Qgd hT 1 [13, 15, 49] [(49, eProg r1)] ?_
  obtain ⟨r10, hr10, h⟩ := bsome h
  refine WO_go' rfl (by kernel_rfl) [] [(100, ⟨1, 39, 11, false, true, s_Stmt.F r10⟩)] [eProg r1] [eProg r1] [] [(100, 50, 1)] [(50, ⟨1, 39, 11, false, true, s_Stmt.F r10⟩)] (vo 100 1 (s_Stmt.F r10)) (vo 50 1 (s_Stmt.F r10)) 2 rfl (by kernel_rfl) en18 (by kernel_rfl) (by kernel_rfl) (by kernel_rfl) (ref1_List_ok hr10) (by kernel_rfl) (by kernel_rfl) (by kernel_rfl) (by kernel_rfl) ?_
  refine Szh hT 1 [13, 15, 16] [(16, vo 50 1 (s_Stmt.F r10))] [(50, ⟨1, 39, 11, false, true, s_Stmt.F r10⟩), (13, ⟨0, 26, 2, true, false, [eProg r1]⟩)] 2 ?_
  refine Qgd hT 1 [13, 15, 16, 51] [(51, eProg r1)] ?_
  obtain ⟨r11, hr11, h⟩ := bsome h
  refine Pt' en14 (tree_Threads_ok hr11) ?_
  refine Szd hT 1 [13, 15, 16, 17] [(17, .ps .fopt (s_int.F r11))] ?_
  refine Qgd hT 1 [13, 15, 16, 17, 53] [(53, eProg r1)] ?_
  obtain ⟨r12, hr12, h⟩ := bsome h
  refine WO_go' rfl (by kernel_rfl) [] [(100, ⟨1, 3, 1, false, true, s_int.F r12⟩)] [eProg r1] [eProg r1] [] [(100, 54, 2)] [(54, ⟨2, 3, 1, false, true, s_int.F r12⟩)] (vo 100 1 (s_int.F r12)) (vo 54 2 (s_int.F r12)) 3 rfl (by kernel_rfl) en19 (by kernel_rfl) (by kernel_rfl) (by kernel_rfl) (ref1_Threads_ok hr12) (by kernel_rfl) (by kernel_rfl) (by kernel_rfl) (by kernel_rfl) ?_
  refine Sz hT 1 [13, 15, 16, 17, 18] ⟨[(13, .box 13 0 0 0), (15, .ps .fopt (s_Stmt.F r9)), (16, vo 50 1 (s_Stmt.F r10)), (17, .ps .fopt (s_int.F r11)), (18, vo 54 2 (s_int.F r12))], [(54, ⟨2, 3, 1, false, true, s_int.F r12⟩), (50, ⟨1, 39, 11, false, true, s_Stmt.F r10⟩), (13, ⟨0, 26, 2, true, false, [eProg r1]⟩)], 3⟩ ?_
  refine WA_seq ?_
  refine WA_seq ?_
  obtain ⟨J14, hJ14, h⟩ := jsome h
  refine WA_join (fun s => ∃ (b13 : Bool), J14 b13 = some r ∧ s = ⟨[(13, .box 13 0 0 0), (15, .ps .fopt (s_Stmt.F r9)), (16, vo 50 0 (s_Stmt.F r10)), (17, .ps .fopt (s_int.F r11)), (18, vo 54 0 (s_int.F r12)), (66, vb b13)], [(13, ⟨0, 26, 2, true, false, [eProg r1]⟩), (50, ⟨0, 39, 11, false, true, s_Stmt.F r10⟩), (54, ⟨0, 3, 1, false, true, s_int.F r12⟩)], 1⟩) ?_ ?_
  · refine Rgd hT 1 [13, 15, 16, 17, 18, 55] [(55, .ps .fopt (s_Stmt.F r9))] ?_
    refine One' hT rfl (ev_len s_Stmt .fopt r9 (by kernel_rfl)) ?_
    refine Sg hT 1 [13, 15, 16, 17, 18, 56, 57] ⟨[(13, .box 13 0 0 0), (15, .ps .fopt (s_Stmt.F r9)), (16, vo 50 1 (s_Stmt.F r10)), (17, .ps .fopt (s_int.F r11)), (18, vo 54 2 (s_int.F r12)), (56, vi (ln r9)), (57, vo 50 1 (s_Stmt.F r10))], [(54, ⟨2, 3, 1, false, true, s_int.F r12⟩), (50, ⟨1, 39, 11, false, true, s_Stmt.F r10⟩), (13, ⟨0, 26, 2, true, false, [eProg r1]⟩)], 3⟩ ?_
    refine One' hT rfl (ev_len_own s_Stmt 50 1 true ⟨1, 39, 11, false, true, s_Stmt.F r10⟩ r10 (by kernel_rfl) rfl rfl) ?_
    refine Sgd hT 2 [13, 15, 16, 17, 18, 60] [(60, vb ((ln r9) != (ln r10)))] ?_
    cases hb : (((ln r9) != (ln r10)) : Bool)
    · replace h := cfalse hb h
      refine Sgd hT 1 [13, 15, 16, 17, 18, 60, 61] [(61, .ps .fopt (s_int.F r11))] ?_
      refine One' hT rfl (ev_len s_int .fopt r11 (by kernel_rfl)) ?_
      refine Sgd hT 1 [13, 15, 16, 17, 18, 60, 62, 63] [(62, vi (ln r11)), (63, vo 54 2 (s_int.F r12))] ?_
      refine One' hT rfl (ev_len_own s_int 54 2 true ⟨2, 3, 1, false, true, s_int.F r12⟩ r12 (by kernel_rfl) rfl rfl) ?_
      refine Sgd hT 2 [13, 15, 16, 17, 18, 66] [(66, vb ((ln r11) != (ln r12)))] ?_
      exact oK [13, 15, 16, 17, 18, 66] [(13, 13, 0), (50, 50, 0), (54, 54, 0)] ⟨((ln r11) != (ln r12)), h, rfl⟩
    replace h := ctrue hb h
    refine Sgd hT 6 [13, 15, 16, 17, 18, 66] [(66, vb true)] ?_
    exact oK [13, 15, 16, 17, 18, 66] [(13, 13, 0), (50, 50, 0), (54, 54, 0)] ⟨true, h, rfl⟩
  subst hJ14
  rintro s ⟨b13, h, rfl⟩
  refine Cd b13 ?_ ?_
  · intro hb; replace h := ctrue hb h
    refine Qzd hT 1 [12] [(12, vb false)] ?_
    obtain rfl := Option.some.inj h
    exact rK [12] [] ⟨[(12, vb false)], [], 1⟩ ⟨by kernel_rfl, rfl⟩
  intro hb; replace h := cfalse hb h
  refine WA_skip ?_
  refine WA_seq ?_
  refine Qgd hT 1 [13, 15, 16, 17, 18, 67] [(67, .ps .fopt (s_Stmt.F r9))] ?_
  refine One' hT rfl (ev_len s_Stmt .fopt r9 (by kernel_rfl)) ?_
  refine Szd hT 1 [13, 15, 16, 17, 18, 68, 69] [(68, vi (ln r9)), (69, vi 0)] ?_
  refine WA_block ?_
  refine aW [13, 15, 16, 17, 18, 68, 69] ⟨[(13, .box 13 0 0 0), (15, .ps .fopt (s_Stmt.F r9)), (16, vo 50 0 (s_Stmt.F r10)), (17, .ps .fopt (s_int.F r11)), (18, vo 54 0 (s_int.F r12)), (68, vi (ln r9)), (69, vi 0)], [(13, ⟨0, 26, 2, true, false, [eProg r1]⟩), (50, ⟨0, 39, 11, false, true, s_Stmt.F r10⟩), (54, ⟨0, 3, 1, false, true, s_int.F r12⟩)], 1⟩ ?_
  refine WA_weak (Weak_frz 50 0 ⟨0, 39, 11, false, true, s_Stmt.F r10⟩ (by kernel_rfl) rfl rfl [(13, .box 13 0 0 0), (15, .ps .fopt (s_Stmt.F r9)), (16, .ps .opt (s_Stmt.F r10)), (17, .ps .fopt (s_int.F r11)), (18, vo 54 0 (s_int.F r12)), (68, vi (ln r9)), (69, vi 0)] [(13, ⟨0, 26, 2, true, false, [eProg r1]⟩), (54, ⟨0, 3, 1, false, true, s_int.F r12⟩)] ⟨rfl, .keep _, rfl, .keep _, rfl, .hit true, rfl, .keep _, rfl, .keep _, rfl, .keep _, rfl, .keep _, trivial⟩ ⟨rfl, .inl rfl, rfl, .inl rfl, trivial⟩) ?_
  refine lR [(13, 13, 0), (54, 54, 0)] (fun k s => ∃ q, q ≤ k ∧ q ≤ n ∧ ∃ (l15 : List Stmt), ∃ (i16 : Int), law3_TreeTells_L0 q a0 a1 a2 a3 a4 a5 r1 r2 b3 r9 r10 r11 r12 b13 l15 i16 = some r ∧ s = ⟨[(13, .box 13 0 0 0), (15, .ps .fopt (s_Stmt.F r9)), (16, .ps .opt (s_Stmt.F l15)), (17, .ps .fopt (s_int.F r11)), (18, vo 54 0 (s_int.F r12)), (68, vi (ln r9)), (69, vi i16)], [(13, ⟨0, 26, 2, true, false, [eProg r1]⟩), (54, ⟨0, 3, 1, false, true, s_int.F r12⟩)], 1⟩) n ⟨n, Nat.le_refl _, Nat.le_refl _, r10, 0, h, rfl⟩ (by rintro s ⟨q, hq, _, l15, i16, h, _⟩; obtain rfl := Nat.le_zero.1 hq; rw [law3_TreeTells_L0] at h; cases h) ?_
  clear h
  rintro k1 s ⟨q1, hk1, hn1, l15, i16, h, rfl⟩
  rcases q1 with _ | q1
  · rw [law3_TreeTells_L0] at h; cases h
  rw [law3_TreeTells_L0] at h
  refine Qzd hT 1 [13, 15, 16, 17, 18, 68, 69, 70] [(70, vb (decide (i16 < (ln r9))))] ?_
  refine WA_seq ?_
  refine Cd (decide (i16 < (ln r9))) ?_ ?_
  · intro hb; replace h := ctrue hb h
    refine WA_skip ?_
    refine WA_seq ?_
    refine WA_block ?_
    refine Qz hT 2 [13, 15, 16, 17, 18, 19, 68, 69] ⟨[(13, .box 13 0 0 0), (15, .ps .fopt (s_Stmt.F r9)), (16, .ps .opt (s_Stmt.F l15)), (17, .ps .fopt (s_int.F r11)), (18, vo 54 0 (s_int.F r12)), (19, vi i16), (68, vi (ln r9)), (69, vi i16)], [(13, ⟨0, 26, 2, true, false, [eProg r1]⟩), (54, ⟨0, 3, 1, false, true, s_int.F r12⟩)], 1⟩ ?_
    refine WA_seq ?_
    obtain ⟨J18, hJ18, h⟩ := jsome h
    refine WA_join (fun s => ∃ (b17 : Bool), J18 b17 = some r ∧ s = ⟨[(13, .box 13 0 0 0), (15, .ps .fopt (s_Stmt.F r9)), (16, .ps .opt (s_Stmt.F l15)), (17, .ps .fopt (s_int.F r11)), (18, vo 54 0 (s_int.F r12)), (68, vi (ln r9)), (69, vi i16), (124, vb b17)], [(13, ⟨0, 26, 2, true, false, [eProg r1]⟩), (54, ⟨0, 3, 1, false, true, s_int.F r12⟩)], 1⟩) ?_ ?_
    · refine WA_drawW hT hM (by kernel_rfl) ?_
      refine Ds 4 [(75, vi (wr (i16 + 1))), (74, vi i16), (73, vi i16), (72, .ps .fopt (s_Stmt.F r9))] [] [] ?_
      obtain ⟨l19, hl19, h⟩ := bsome h
      refine WD_loc' rfl (by kernel_rfl) (by kernel_rfl) (by kernel_rfl) (ev_slice s_Stmt .fopt r9 i16 (wr (i16 + 1)) none l19 .opt hl19 (by kernel_rfl) (by kernel_rfl) (by kernel_rfl) (by kernel_rfl) (by intro y hy; cases hy) rfl rfl (by decide)) (by kernel_rfl) ?_
      refine Dt (.ps .opt (s_Stmt.F l19)) ?_
      refine Ds 4 [(80, vi (wr (i16 + 1))), (79, vi i16), (78, vi i16), (77, .ps .opt (s_Stmt.F l15))] [] [] ?_
      obtain ⟨l20, hl20, h⟩ := bsome h
      refine WD_loc' rfl (by kernel_rfl) (by kernel_rfl) (by kernel_rfl) (ev_slice s_Stmt .opt l15 i16 (wr (i16 + 1)) none l20 .opt hl20 (by kernel_rfl) (by kernel_rfl) (by kernel_rfl) (by kernel_rfl) (by intro y hy; cases hy) rfl rfl (by decide)) (by kernel_rfl) ?_
      refine Dt (.ps .opt (s_Stmt.F l20)) ?_
      obtain ⟨r21, hr21, h⟩ := bsome h
      refine WD_pt' rfl (by kernel_rfl) (by kernel_rfl) [.ps .opt (s_Stmt.F l19), .ps .opt (s_Stmt.F l20)] (vb r21) rfl (by kernel_rfl) en13 (by kernel_rfl) (ref1_SameBlock_ok hr21) (by kernel_rfl) ?_
      refine Ds 2 [(84, vb (!r21)), (83, vb (!r21))] [] [] ?_
      cases hb : (!r21 : Bool)
      · replace h := cfalse hb h
        refine Ds 2 [(86, vi i16), (85, .ps .fopt (s_int.F r11))] [] [] ?_
        obtain ⟨x22, hx22, h⟩ := bsome h
        refine WD_loc' rfl (by kernel_rfl) (by kernel_rfl) (by kernel_rfl) (ev_index s_int .fopt r11 .i64 i16 hx22 (by decide) (by kernel_rfl) (by kernel_rfl)) (by kernel_rfl) ?_
        refine Dt (.ref (e_i64 x22) 0) ?_
        refine Ds 3 [(90, vi i16), (89, vo 54 0 (s_int.F r12)), (88, vi x22)] [] [] ?_
        obtain ⟨x23, hx23, h⟩ := bsome h
        refine WD_loc' rfl (by kernel_rfl) (by kernel_rfl) (by kernel_rfl) (ev_index_own s_int 54 0 true ⟨0, 3, 1, false, true, s_int.F r12⟩ r12 .i64 i16 hx23 (by kernel_rfl) (by kernel_rfl) rfl rfl rfl) (by kernel_rfl) ?_
        refine Dt (.box 54 0 i16.toNat 0) ?_
        refine WD_loc' rfl (by kernel_rfl) (by kernel_rfl) (by kernel_rfl) (ev_load_row s_int 54 0 ⟨0, 3, 1, false, true, s_int.F r12⟩ r12 i16.toNat 0 x23 (vi x23) (idx_some hx23).2 (by kernel_rfl) rfl rfl rfl (by kernel_rfl)) (by kernel_rfl) ?_
        refine Dt (vi x23) ?_
        refine Ds 3 [(95, vb (x22 != x23)), (94, vb (x22 != x23)), (93, vb (x22 != x23))] [] [] ?_
        cases hb : ((x22 != x23) : Bool)
        · replace h := cfalse hb h
          refine Ds 2 [(97, vi i16), (96, .ps .fopt (s_Stmt.F r9))] [] [] ?_
          obtain ⟨x24, hx24, h⟩ := bsome h
          refine WD_loc' rfl (by kernel_rfl) (by kernel_rfl) (by kernel_rfl) (ev_index s_Stmt .fopt r9 .i64 i16 hx24 (by decide) (by kernel_rfl) (by kernel_rfl)) (by kernel_rfl) ?_
          refine Dt (.ref (eStmt x24) 0) ?_
          refine Ds 1 [(99, eStmt x24)] [] [] ?_
          obtain ⟨r25, hr25, h⟩ := bsome h
          refine WD_pt' rfl (by kernel_rfl) (by kernel_rfl) [eStmt x24] (.ps .fopt (s_string.F r25)) rfl (by kernel_rfl) en16 (by kernel_rfl) (tree_Touches_ok hr25) (by kernel_rfl) ?_
          refine Ds 2 [(102, vi i16), (101, .ps .fopt (s_Stmt.F r9))] [] [] ?_
          obtain ⟨x26, hx26, h⟩ := bsome h
          refine WD_loc' rfl (by kernel_rfl) (by kernel_rfl) (by kernel_rfl) (ev_index s_Stmt .fopt r9 .i64 i16 hx26 (by decide) (by kernel_rfl) (by kernel_rfl)) (by kernel_rfl) ?_
          refine Dt (.ref (eStmt x26) 0) ?_
          refine Ds 1 [(104, eStmt x26)] [] [] ?_
          obtain ⟨r27, hr27, h⟩ := bsome h
          refine WD_pt' rfl (by kernel_rfl) (by kernel_rfl) [eStmt x26] (.ps .opt (s_string.F r27)) rfl (by kernel_rfl) en21 (by kernel_rfl) (PT_of_GO (ref1_Touches_ok hr27)) (by kernel_rfl) ?_
          obtain ⟨r28, hr28, h⟩ := bsome h
          refine WD_pt' rfl (by kernel_rfl) (by kernel_rfl) [.ps .fopt (s_string.F r25), .ps .opt (s_string.F r27)] (vb r28) rfl (by kernel_rfl) en20 (by kernel_rfl) (PT_args ((law3_sameTexts_ok hr28)) ⟨VLe.fopt_opt, VLe.refl _, trivial⟩) (by kernel_rfl) ?_
          refine Ds 3 [(109, vb (!r28)), (108, vb (!r28)), (107, vb (!r28))] [] [] ?_
          cases hb : (!r28 : Bool)
          · replace h := cfalse hb h
            refine Ds 2 [(111, vi i16), (110, .ps .fopt (s_Stmt.F r9))] [] [] ?_
            obtain ⟨x29, hx29, h⟩ := bsome h
            refine WD_loc' rfl (by kernel_rfl) (by kernel_rfl) (by kernel_rfl) (ev_index s_Stmt .fopt r9 .i64 i16 hx29 (by decide) (by kernel_rfl) (by kernel_rfl)) (by kernel_rfl) ?_
            refine Dt (.ref (eStmt x29) 0) ?_
            refine Ds 2 [(114, eExpr x29.E), (113, .ref (eStmt x29) 4)] [] [] ?_
            obtain ⟨r30, hr30, h⟩ := bsome h
            refine WD_pt' rfl (by kernel_rfl) (by kernel_rfl) [eExpr x29.E] (.ps .fopt (s_string.F r30)) rfl (by kernel_rfl) en22 (by kernel_rfl) (tree_Names_ok hr30) (by kernel_rfl) ?_
            refine Ds 2 [(117, vi i16), (116, .ps .fopt (s_Stmt.F r9))] [] [] ?_
            obtain ⟨x31, hx31, h⟩ := bsome h
            refine WD_loc' rfl (by kernel_rfl) (by kernel_rfl) (by kernel_rfl) (ev_index s_Stmt .fopt r9 .i64 i16 hx31 (by decide) (by kernel_rfl) (by kernel_rfl)) (by kernel_rfl) ?_
            refine Dt (.ref (eStmt x31) 0) ?_
            refine Ds 2 [(120, eExpr x31.E), (119, .ref (eStmt x31) 4)] [] [] ?_
            obtain ⟨r32, hr32, h⟩ := bsome h
            refine WD_pt' rfl (by kernel_rfl) (by kernel_rfl) [eExpr x31.E] (.ps .opt (s_string.F r32)) rfl (by kernel_rfl) en23 (by kernel_rfl) (PT_of_GO (ref1_Names_ok hr32)) (by kernel_rfl) ?_
            obtain ⟨r33, hr33, h⟩ := bsome h
            refine WD_pt' rfl (by kernel_rfl) (by kernel_rfl) [.ps .fopt (s_string.F r30), .ps .opt (s_string.F r32)] (vb r33) rfl (by kernel_rfl) en20 (by kernel_rfl) (PT_args ((law3_sameTexts_ok hr33)) ⟨VLe.fopt_opt, VLe.refl _, trivial⟩) (by kernel_rfl) ?_
            refine Ds 2 [(124, vb (!r33)), (123, vb (!r33))] [] [] ?_
            refine WD_end (by kernel_rfl) (by kernel_rfl) (by kernel_rfl) ?_
            exact wK [13, 15, 16, 17, 18, 68, 69, 124] [(13, 13, 0), (54, 54, 0)] ⟨!r33, h, rfl⟩
          replace h := ctrue hb h
          refine Ds 15 [(124, vb true), (123, .p Go.undef), (122, .p Go.undef), (121, .p Go.undef), (120, .p Go.undef), (119, .p Go.undef), (118, .p Go.undef), (117, .p Go.undef), (116, .p Go.undef), (115, .p Go.undef), (114, .p Go.undef), (113, .p Go.undef), (112, .p Go.undef), (111, .p Go.undef), (110, .p Go.undef)] [] [] ?_
          refine WD_end (by kernel_rfl) (by kernel_rfl) (by kernel_rfl) ?_
          exact wK [13, 15, 16, 17, 18, 68, 69, 124] [(13, 13, 0), (54, 54, 0)] ⟨true, h, rfl⟩
        replace h := ctrue hb h
        refine Ds 29 [(124, vb true), (123, .p Go.undef), (122, .p Go.undef), (121, .p Go.undef), (120, .p Go.undef), (119, .p Go.undef), (118, .p Go.undef), (117, .p Go.undef), (116, .p Go.undef), (115, .p Go.undef), (114, .p Go.undef), (113, .p Go.undef), (112, .p Go.undef), (111, .p Go.undef), (110, .p Go.undef), (109, vb true), (108, vb true), (107, .p Go.undef), (106, .p Go.undef), (105, .p Go.undef), (104, .p Go.undef), (103, .p Go.undef), (102, .p Go.undef), (101, .p Go.undef), (100, .p Go.undef), (99, .p Go.undef), (98, .p Go.undef), (97, .p Go.undef), (96, .p Go.undef)] [] [] ?_
        refine WD_end (by kernel_rfl) (by kernel_rfl) (by kernel_rfl) ?_
        exact wK [13, 15, 16, 17, 18, 68, 69, 124] [(13, 13, 0), (54, 54, 0)] ⟨true, h, rfl⟩
      replace h := ctrue hb h
      refine Ds 40 [(124, vb true), (123, .p Go.undef), (122, .p Go.undef), (121, .p Go.undef), (120, .p Go.undef), (119, .p Go.undef), (118, .p Go.undef), (117, .p Go.undef), (116, .p Go.undef), (115, .p Go.undef), (114, .p Go.undef), (113, .p Go.undef), (112, .p Go.undef), (111, .p Go.undef), (110, .p Go.undef), (109, vb true), (108, vb true), (107, .p Go.undef), (106, .p Go.undef), (105, .p Go.undef), (104, .p Go.undef), (103, .p Go.undef), (102, .p Go.undef), (101, .p Go.undef), (100, .p Go.undef), (99, .p Go.undef), (98, .p Go.undef), (97, .p Go.undef), (96, .p Go.undef), (95, vb true), (94, vb true), (93, .p Go.undef), (92, .p Go.undef), (91, .p Go.undef), (90, .p Go.undef), (89, .p Go.undef), (88, .p Go.undef), (87, .p Go.undef), (86, .p Go.undef), (85, .p Go.undef)] [] [] ?_
      refine WD_end (by kernel_rfl) (by kernel_rfl) (by kernel_rfl) ?_
      exact wK [13, 15, 16, 17, 18, 68, 69, 124] [(13, 13, 0), (54, 54, 0)] ⟨true, h, rfl⟩
    subst hJ18
    rintro s ⟨b17, h, rfl⟩
    skip
    refine Cd b17 ?_ ?_
    · intro hb; replace h := ctrue hb h
      refine Qzd hT 1 [12] [(12, vb false)] ?_
      obtain rfl := Option.some.inj h
      exact rK [12] [] ⟨[(12, vb false)], [], 1⟩ ⟨by kernel_rfl, rfl⟩
    intro hb; replace h := cfalse hb h
    refine WA_skip ?_
    refine Rgd hT 2 [13, 15, 16, 17, 18, 68, 69] [(69, vi (wr (i16 + 1)))] ?_
    exact oK [13, 15, 16, 17, 18, 68, 69] [(13, 13, 0), (54, 54, 0)] ⟨_, by omega, by omega, l15, wr (i16 + 1), h, rfl⟩
  intro hb; replace h := cfalse hb h
  refine WA_exit ?_
  refine WA_seq ?_
  refine WA_drawW hT hM (by kernel_rfl) ?_
  refine Ds 1 [(126, eProg r1)] [] [(0, [13])] ?_
  obtain ⟨r34, hr34, h⟩ := bsome h
  refine WD_pt' rfl (by kernel_rfl) (by kernel_rfl) [eProg r1] (eProg r34) rfl (by kernel_rfl) en8 (by kernel_rfl) (tree_Copy_ok hr34) (by kernel_rfl) ?_
  refine Ds 1 [(128, eProg r1)] [] [(2, [13])] ?_
  obtain ⟨r35, hr35, h⟩ := bsome h
  refine WD_pt' rfl (by kernel_rfl) (by kernel_rfl) [eProg r34, eProg r1] (vb r35) rfl (by kernel_rfl) en17 (by kernel_rfl) (ref1_Same_ok hr35) (by kernel_rfl) ?_
  refine Ds 1 [(12, vb r35)] [] [] ?_
  refine WD_end (by kernel_rfl) (by kernel_rfl) (by kernel_rfl) ?_
  refine Wk_done ?_
  obtain rfl := Option.some.inj h
  exact rK [12] [] ⟨[(12, vb r35)], [], 1⟩ ⟨by kernel_rfl, rfl⟩

end Go.Su.Ytogllinpkijkpaa
