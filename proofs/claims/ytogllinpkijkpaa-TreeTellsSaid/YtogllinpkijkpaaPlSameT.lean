/-
  Programs that are alike: the program's answer.
-/
import Derived.Test.YtogllinpkijkpaaPlSameR
namespace Go.Su.Ytogllinpkijkpaa
open Go.Mx Go.Proofs
set_option linter.unusedVariables false
set_option linter.unusedSimpArgs false
set_option maxHeartbeats 4000000

theorem tsameE_ev : (∀ e, szE e ≤ 1000000 → ∀ f, Ev (fun n => tree_SameExpr n e f) (eqE e f)) ∧
    ∀ l, ∀ (q : List Expr) (pre pre' : List Expr), (pre ++ l).length ≤ 1000000 → szEl l ≤ 1000000 → pre.length = pre'.length → l.length = q.length →
      Ev (fun n => EqualFunc_Expr_ftree_SameExpr_L0 n (pre ++ l) (pre' ++ q) pre.length) (eqEl l q) := by
  refine expr_ind ?_ ?_ ?_
  · intro k m w l ih h f
    obtain ⟨k', m', w', l'⟩ := f
    rw [szE] at h
    have hl := len_El l
    have hq : Ev (fun n => EqualFunc_Expr_ftree_SameExpr n l l') (eqEl l l') := by
      by_cases h4 : l.length = l'.length
      · have h5 : (ln l != ln l') = false := by rw [bne_len]; simp [h4]
        refine Ev.step (Ev.of_eq (g := fun n => EqualFunc_Expr_ftree_SameExpr_L0 n l l' 0) (fun n => ?_) (ih l' [] [] (by simp; omega) (by omega) rfl h4))
        simp only [EqualFunc_Expr_ftree_SameExpr, h5, cond_false]
      · have h5 : (ln l != ln l') = true := by rw [bne_len]; simp [h4]
        rw [eqEl_len l l' h4]
        refine Ev.step (Ev.of_eq (g := fun n => some false) (fun n => ?_) (Ev.ret _))
        simp only [EqualFunc_Expr_ftree_SameExpr, h5, cond_true]
    rw [eqE]
    simp only
    cases h1 : (k == k')
    · exact Ev.step (Ev.of_eq (g := fun n => some false) (fun n => by simp only [tree_SameExpr, jn, h1, cond_false]) (Ev.ret _))
    cases h2 : (m == m')
    · exact Ev.step (Ev.of_eq (g := fun n => some false) (fun n => by simp only [tree_SameExpr, jn, h1, h2, cond_true, cond_false]) (Ev.ret _))
    cases h3 : bytesEq w w'
    · exact Ev.step (Ev.of_eq (g := fun n => some false) (fun n => by simp only [tree_SameExpr, jn, h1, h2, h3, cond_true, cond_false]) (Ev.ret _))
    simp only [Bool.true_and]
    refine Ev.step (Ev.of_eq (g := fun n => (EqualFunc_Expr_ftree_SameExpr n l l').bind fun r3 => some r3) (fun n => ?_) (Ev.bind hq (Ev.ret _)))
    simp only [tree_SameExpr, jn, h1, h2, h3, cond_true]
  · intro q pre pre' h1 h2 h3 h4
    have : q = [] := List.eq_nil_of_length_eq_zero h4.symm
    subst this
    refine Ev.step (Ev.of_eq (g := fun n => some true) (fun n => ?_) (by simpa [eqEl] using Ev.ret true))
    simp only [EqualFunc_Expr_ftree_SameExpr_L0, List.append_nil, ix_ge, cond_false]
  · intro x r ihx ihr q pre pre' h1 h2 h3 h4
    cases q with
    | nil => simp at h4
    | cons y q =>
      rw [szEl] at h2
      have hp : pre.length ≤ 1000000 := by simp at h1; omega
      refine Ev.step (Ev.of_eq (g := fun n => (tree_SameExpr n x y).bind fun r6 => bif !r6 then some false else EqualFunc_Expr_ftree_SameExpr_L0 n ((pre ++ [x]) ++ r) ((pre' ++ [y]) ++ q) ((pre ++ [x]).length)) (fun n => ?_) (Ev.bind (ihx (by omega) y) ?_))
      · have l2 : idx (pre' ++ y :: q) (pre.length : Int) = some y := by rw [h3]; exact ix_get _ _ _
        simp only [EqualFunc_Expr_ftree_SameExpr_L0, ix_lt, ix_get, l2, cond_true, Option.bind_some]
        rw [ix_wr pre x (by omega), ← ix_cons, ← ix_cons]
      · rw [eqEl]
        cases h5 : eqE x y
        · exact Ev.ret _
        · simp only [Bool.not_true, cond_false, Bool.true_and]
          exact ihr q (pre ++ [x]) (pre' ++ [y]) (by rw [← ix_cons]; exact h1) (by omega) (by simp [h3]) (by simpa using h4)

theorem tsameB_of (l q : List Stmt) (hl : l.length ≤ 1000000) (ih : l.length = q.length → Ev (fun n => EqualFunc_Stmt_ftree_sameStmt_L0 n l q 0) (eqSl l q)) : Ev (fun n => tree_sameBlock n l q) (eqSl l q) := by
  have hq : Ev (fun n => EqualFunc_Stmt_ftree_sameStmt n l q) (eqSl l q) := by
    by_cases h4 : l.length = q.length
    · have h5 : (ln l != ln q) = false := by rw [bne_len]; simp [h4]
      exact Ev.step (Ev.of_eq (fun n => by simp only [EqualFunc_Stmt_ftree_sameStmt, h5, cond_false]) (ih h4))
    · have h5 : (ln l != ln q) = true := by rw [bne_len]; simp [h4]
      rw [eqSl_len l q h4]
      exact Ev.step (Ev.of_eq (g := fun n => some false) (fun n => by simp only [EqualFunc_Stmt_ftree_sameStmt, h5, cond_true]) (Ev.ret _))
  exact Ev.step (Ev.of_eq (g := fun n => (EqualFunc_Stmt_ftree_sameStmt n l q).bind fun r1 => some r1) (fun n => by simp only [tree_sameBlock]) (Ev.bind hq (Ev.ret _)))

theorem tsameS_ev : (∀ s, szS s ≤ 1000000 → ∀ t, Ev (fun n => tree_sameStmt n s t) (eqS s t)) ∧
    ∀ l, ∀ (q : List Stmt) (pre pre' : List Stmt), (pre ++ l).length ≤ 1000000 → szSl l ≤ 1000000 → pre.length = pre'.length → l.length = q.length →
      Ev (fun n => EqualFunc_Stmt_ftree_sameStmt_L0 n (pre ++ l) (pre' ++ q) pre.length) (eqSl l q) := by
  refine stmt_ind ?_ ?_ ?_
  · intro k w v m e b l a ihb ihl h t
    obtain ⟨k', w', v', m', e', b', l', a'⟩ := t
    rw [szS] at h
    have lb := len_Sl b
    have ll := len_Sl l
    have hB := tsameB_of b b' (by omega) fun e => ihb b' [] [] (by simp; omega) (by omega) rfl e
    have hL := tsameB_of l l' (by omega) fun e => ihl l' [] [] (by simp; omega) (by omega) rfl e
    have hE := tsameE_ev.1 e (by omega) e'
    rw [eqS]
    simp only
    cases c1 : (k == k')
    · exact Ev.step (Ev.of_eq (g := fun n => some false) (fun n => by simp only [tree_sameStmt, jn, c1, cond_false]) (Ev.ret _))
    cases c2 : bytesEq w w'
    · exact Ev.step (Ev.of_eq (g := fun n => some false) (fun n => by simp only [tree_sameStmt, jn, c1, c2, cond_true, cond_false]) (Ev.ret _))
    cases c3 : bytesEq v v'
    · exact Ev.step (Ev.of_eq (g := fun n => some false) (fun n => by simp only [tree_sameStmt, jn, c1, c2, c3, cond_true, cond_false]) (Ev.ret _))
    cases c4 : (m == m')
    · exact Ev.step (Ev.of_eq (g := fun n => some false) (fun n => by simp only [tree_sameStmt, jn, c1, c2, c3, c4, cond_true, cond_false]) (Ev.ret _))
    simp only [Bool.true_and]
    refine Ev.step (Ev.of_eq (g := fun n => (tree_SameExpr n e e').bind fun r3 => bif r3 then (tree_sameBlock n b b').bind fun r4 => bif r4 then (tree_sameBlock n l l').bind fun r5 => some r5 else some false else some false) (fun n => ?_) (Ev.bind hE ?_))
    · simp only [tree_sameStmt, jn, c1, c2, c3, c4, cond_true]
    cases c5 : eqE e e'
    · exact Ev.ret _
    simp only [cond_true, Bool.true_and]
    refine Ev.bind hB ?_
    cases c6 : eqSl b b'
    · exact Ev.ret _
    simp only [cond_true, Bool.true_and]
    exact Ev.bind hL (Ev.ret _)
  · intro q pre pre' h1 h2 h3 h4
    have : q = [] := List.eq_nil_of_length_eq_zero h4.symm
    subst this
    refine Ev.step (Ev.of_eq (g := fun n => some true) (fun n => ?_) (by simpa [eqSl] using Ev.ret true))
    simp only [EqualFunc_Stmt_ftree_sameStmt_L0, List.append_nil, ix_ge, cond_false]
  · intro x r ihx ihr q pre pre' h1 h2 h3 h4
    cases q with
    | nil => simp at h4
    | cons y q =>
      rw [szSl] at h2
      have hp : pre.length ≤ 1000000 := by simp at h1; omega
      have l2 : idx (pre' ++ y :: q) (pre.length : Int) = some y := by rw [h3]; exact ix_get _ _ _
      refine Ev.step (Ev.of_eq (g := fun n => (tree_sameStmt n x y).bind fun r4 => bif !r4 then some false else EqualFunc_Stmt_ftree_sameStmt_L0 n ((pre ++ [x]) ++ r) ((pre' ++ [y]) ++ q) ((pre ++ [x]).length)) (fun n => ?_) (Ev.bind (ihx (by omega) y) ?_))
      · simp only [EqualFunc_Stmt_ftree_sameStmt_L0, ix_lt, ix_get, l2, cond_true, Option.bind_some]
        rw [ix_wr pre x (by omega), ← ix_cons, ← ix_cons]
      · rw [eqSl]
        cases c : eqS x y
        · exact Ev.ret _
        · simp only [Bool.not_true, cond_false, Bool.true_and]
          exact ihr q (pre ++ [x]) (pre' ++ [y]) (by rw [← ix_cons]; exact h1) (by omega) (by simp [h3]) (by simpa using h4)
theorem tsameB_ev (l q : List Stmt) (h : szSl l ≤ 1000000) : Ev (fun n => tree_sameBlock n l q) (eqSl l q) := by
  have hl := len_Sl l
  exact tsameB_of l q (by omega) fun e => tsameS_ev.2 l q [] [] (by simp; omega) h rfl e

theorem tsame1 (n : Nat) (a b : Decl) : tree_Same_1 n a b = some (eqD a b) := by
  unfold tree_Same_1 jn eqD
  cases (a.Kind == b.Kind) <;> cases bytesEq a.Name b.Name <;> rfl
theorem tsameD_L0 : ∀ (l q pre pre' : List Decl), (pre ++ l).length ≤ 1000000 → pre.length = pre'.length → l.length = q.length → Ev (fun n => EqualFunc_Decl_ftree_Same_1_L0 n (pre ++ l) (pre' ++ q) pre.length) (eqDl l q)
  | [], q, pre, pre', h1, h3, h4 => by
    have : q = [] := List.eq_nil_of_length_eq_zero h4.symm
    subst this
    refine Ev.step (Ev.of_eq (g := fun n => some true) (fun n => ?_) (by simpa [eqDl] using Ev.ret true))
    simp only [EqualFunc_Decl_ftree_Same_1_L0, List.append_nil, ix_ge, cond_false]
  | x :: r, [], pre, pre', h1, h3, h4 => by simp at h4
  | x :: r, y :: q, pre, pre', h1, h3, h4 => by
    have hp : pre.length ≤ 1000000 := by simp at h1; omega
    have l2 : idx (pre' ++ y :: q) (pre.length : Int) = some y := by rw [h3]; exact ix_get _ _ _
    have hw := ix_wr pre x (by omega)
    have nx := tsameD_L0 r q (pre ++ [x]) (pre' ++ [y]) (by rw [← ix_cons]; exact h1) (by simp [h3]) (by simpa using h4)
    rw [eqDl]
    cases c1 : eqD x y
    · exact Ev.step (Ev.of_eq (g := fun n => some false) (fun n => by simp only [EqualFunc_Decl_ftree_Same_1_L0, ix_lt, ix_get, l2, tsame1, c1, cond_true, Option.bind_some, Bool.not_false]) (Ev.ret _))
    simp only [Bool.true_and]
    refine Ev.step (Ev.of_eq (fun n => ?_) nx)
    simp only [EqualFunc_Decl_ftree_Same_1_L0, ix_lt, ix_get, l2, tsame1, c1, cond_true, cond_false, Option.bind_some, Bool.not_true, hw]
    rw [← ix_cons, ← ix_cons]
theorem tsameT_L0 : ∀ (l q pre pre' : List (List Stmt)), (pre ++ l).length ≤ 1000000 → szT l ≤ 1000000 → pre.length = pre'.length → l.length = q.length → Ev (fun n => EqualFunc_LStmt_ftree_sameBlock_L0 n (pre ++ l) (pre' ++ q) pre.length) (eqT l q)
  | [], q, pre, pre', h1, hz, h3, h4 => by
    have : q = [] := List.eq_nil_of_length_eq_zero h4.symm
    subst this
    refine Ev.step (Ev.of_eq (g := fun n => some true) (fun n => ?_) (by simpa [eqT] using Ev.ret true))
    simp only [EqualFunc_LStmt_ftree_sameBlock_L0, List.append_nil, ix_ge, cond_false]
  | x :: r, [], pre, pre', h1, hz, h3, h4 => by simp at h4
  | x :: r, y :: q, pre, pre', h1, hz, h3, h4 => by
    rw [szT] at hz
    have hp : pre.length ≤ 1000000 := by simp at h1; omega
    have l2 : idx (pre' ++ y :: q) (pre.length : Int) = some y := by rw [h3]; exact ix_get _ _ _
    have nx := tsameT_L0 r q (pre ++ [x]) (pre' ++ [y]) (by rw [← ix_cons]; exact h1) (by omega) (by simp [h3]) (by simpa using h4)
    refine Ev.step (Ev.of_eq (g := fun n => (tree_sameBlock n x y).bind fun r7 => bif !r7 then some false else EqualFunc_LStmt_ftree_sameBlock_L0 n ((pre ++ [x]) ++ r) ((pre' ++ [y]) ++ q) ((pre ++ [x]).length)) (fun n => ?_) (Ev.bind (tsameB_ev x y (by omega)) ?_))
    · simp only [EqualFunc_LStmt_ftree_sameBlock_L0, ix_lt, ix_get, l2, cond_true, Option.bind_some]
      rw [ix_wr pre x (by omega), ← ix_cons, ← ix_cons]
    · rw [eqT]
      cases c : eqSl x y
      · exact Ev.ret _
      · simpa using nx
theorem tsameP_ev (p q : Prog) (hd : p.Decls.length ≤ 1000000) (hz : szT p.Threads ≤ 1000000) : Ev (fun n => tree_Same n p q) (eqP p q) := by
  obtain ⟨D, ts⟩ := p
  obtain ⟨D', ts'⟩ := q
  have hT := len_T ts
  simp only at hd hz
  have h1 : Ev (fun n => EqualFunc_Decl_ftree_Same_1 n D D') (eqDl D D') := by
    by_cases h4 : D.length = D'.length
    · have h5 : (ln D != ln D') = false := by rw [bne_len]; simp [h4]
      exact Ev.of_eq (fun n => by simp only [EqualFunc_Decl_ftree_Same_1, h5, cond_false]; rfl) (tsameD_L0 D D' [] [] (by simpa using hd) rfl h4)
    · have h5 : (ln D != ln D') = true := by rw [bne_len]; simp [h4]
      rw [eqDl_len D D' h4]
      exact Ev.of_eq (g := fun n => some false) (fun n => by simp only [EqualFunc_Decl_ftree_Same_1, h5, cond_true]) (Ev.ret _)
  have h2 : Ev (fun n => EqualFunc_LStmt_ftree_sameBlock n ts ts') (eqT ts ts') := by
    by_cases h4 : ts.length = ts'.length
    · have h5 : (ln ts != ln ts') = false := by rw [bne_len]; simp [h4]
      exact Ev.of_eq (fun n => by simp only [EqualFunc_LStmt_ftree_sameBlock, h5, cond_false]; rfl) (tsameT_L0 ts ts' [] [] (by simp; omega) hz rfl h4)
    · have h5 : (ln ts != ln ts') = true := by rw [bne_len]; simp [h4]
      rw [eqT_len ts ts' h4]
      exact Ev.of_eq (g := fun n => some false) (fun n => by simp only [EqualFunc_LStmt_ftree_sameBlock, h5, cond_true]) (Ev.ret _)
  refine Ev.of_eq (g := fun n => (EqualFunc_Decl_ftree_Same_1 n D D').bind fun r3 => bif r3 then (EqualFunc_LStmt_ftree_sameBlock n ts ts').bind fun r4 => some r4 else some false) (fun n => by simp only [tree_Same, jn]) (Ev.bind h1 ?_)
  unfold eqP
  simp only
  cases c : eqDl D D'
  · exact Ev.ret _
  · simp only [cond_true, Bool.true_and]; exact Ev.bind h2 (Ev.ret _)

end Go.Su.Ytogllinpkijkpaa
