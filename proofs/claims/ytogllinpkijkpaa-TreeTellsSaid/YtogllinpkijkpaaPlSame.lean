/-
  Programs that are alike, but for their places.
-/
import Derived.Test.YtogllinpkijkpaaPlTree
namespace Go.Su.Ytogllinpkijkpaa
open Go.Mx Go.Proofs
set_option linter.unusedVariables false
set_option linter.unusedSimpArgs false
set_option maxHeartbeats 4000000

mutual
def eqE : Expr → Expr → Bool
  | ⟨k, n, w, l⟩, e => (k == e.Kind) && ((n == e.N) && (bytesEq w e.Name && eqEl l e.Of))
def eqEl : List Expr → List Expr → Bool
  | [], [] => true
  | x :: r, y :: q => eqE x y && eqEl r q
  | _, _ => false
end
mutual
def eqS : Stmt → Stmt → Bool
  | ⟨k, w, v, m, e, b, l, _⟩, s => (k == s.Kind) && (bytesEq w s.Name && (bytesEq v s.Other && ((m == s.N) && (eqE e s.E && (eqSl b s.Body && eqSl l s.Else)))))
def eqSl : List Stmt → List Stmt → Bool
  | [], [] => true
  | x :: r, y :: q => eqS x y && eqSl r q
  | _, _ => false
end
theorem bytesEq_self (a : ByteArray) : bytesEq a a = true := by rw [bytesEq_eq]; simp
theorem bytesEq_iff (a b : ByteArray) : bytesEq a b = true ↔ a = b := by
  constructor
  · intro h
    rw [bytesEq_eq, ByteArray.toList_eq, ByteArray.toList_eq] at h
    have h : a.data.toList = b.data.toList := by simpa using h
    cases a with | mk x => cases b with | mk y => congr 1; exact Array.ext' h
  · rintro rfl; exact bytesEq_self a
theorem eqE_refl : (∀ e, eqE e e = true) ∧ ∀ l, eqEl l l = true := by
  refine expr_ind ?_ (by simp [eqEl]) ?_
  · intro k n w l h
    rw [eqE]; simp [bytesEq_self, h]
  · intro e r h1 h2
    rw [eqEl, h1, h2]; rfl
theorem eqS_refl : (∀ e, eqS e e = true) ∧ ∀ l, eqSl l l = true := by
  refine stmt_ind ?_ (by simp [eqSl]) ?_
  · intro k w v m e b l a h1 h2
    rw [eqS]; simp [bytesEq_self, eqE_refl.1, h1, h2]
  · intro e r h1 h2
    rw [eqSl, h1, h2]; rfl
theorem eqEl_len : ∀ l q : List Expr, l.length ≠ q.length → eqEl l q = false
  | [], [], h => absurd rfl h
  | [], _ :: _, _ => by simp [eqEl]
  | _ :: _, [], _ => by simp [eqEl]
  | x :: r, y :: q, h => by rw [eqEl, eqEl_len r q (by simpa using h), Bool.and_false]
theorem eqSl_len : ∀ l q : List Stmt, l.length ≠ q.length → eqSl l q = false
  | [], [], h => absurd rfl h
  | [], _ :: _, _ => by simp [eqSl]
  | _ :: _, [], _ => by simp [eqSl]
  | x :: r, y :: q, h => by rw [eqSl, eqSl_len r q (by simpa using h), Bool.and_false]

theorem bne_len {α β : Type} (l : List α) (q : List β) : (ln l != ln q) = !decide (l.length = q.length) := by
  by_cases h : l.length = q.length
  · have : ln l = ln q := by show (l.length : Int) = q.length; omega
    rw [this]; simp [h]
  · have : ln l ≠ ln q := by show (l.length : Int) ≠ q.length; omega
    simp [h, this]

theorem rsameE_ev : (∀ e, szE e ≤ 1000000 → ∀ f, Ev (fun n => ref1_SameExpr n e f) (eqE e f)) ∧
    ∀ l, ∀ (q : List Expr) (k m : Int) (w : ByteArray) (k' m' : Int) (w' : ByteArray) (b : Bool) (pre pre' : List Expr), (pre ++ l).length ≤ 1000000 → szEl l ≤ 1000000 → pre.length = pre'.length → l.length = q.length →
      Ev (fun n => ref1_SameExpr_L0 n ⟨k, m, w, pre ++ l⟩ ⟨k', m', w', pre' ++ q⟩ b pre.length) (eqEl l q) := by
  refine expr_ind ?_ ?_ ?_
  · intro k m w l ih h f
    obtain ⟨k', m', w', l'⟩ := f
    rw [szE] at h
    have hl := len_El l
    rw [eqE]
    simp only
    cases h1 : (k == k')
    · exact Ev.step (Ev.of_eq (g := fun n => some false) (fun n => by simp only [ref1_SameExpr, jn, bne, h1, Bool.not_false, cond_true]) (Ev.ret _))
    cases h2 : (m == m')
    · exact Ev.step (Ev.of_eq (g := fun n => some false) (fun n => by simp only [ref1_SameExpr, jn, bne, h1, h2, Bool.not_false, Bool.not_true, cond_true, cond_false]) (Ev.ret _))
    cases h3 : bytesEq w w'
    · exact Ev.step (Ev.of_eq (g := fun n => some false) (fun n => by simp only [ref1_SameExpr, jn, bne, h1, h2, h3, Bool.not_false, Bool.not_true, cond_true, cond_false]) (Ev.ret _))
    by_cases h4 : l.length = l'.length
    · have h5 : (ln l != ln l') = false := by rw [bne_len]; simp [h4]
      simp only [Bool.true_and]
      refine Ev.step (Ev.of_eq (g := fun n => ref1_SameExpr_L0 n ⟨k, m, w, l⟩ ⟨k', m', w', l'⟩ false 0) (fun n => ?_) (ih l' k m w k' m' w' false [] [] (by simp; omega) (by omega) rfl h4))
      simp only [ref1_SameExpr, jn, bne, h1, h2, h3, Bool.not_true, cond_false]
      simp only [bne] at h5
      rw [h5]; rfl
    · have h5 : (ln l != ln l') = true := by rw [bne_len]; simp [h4]
      rw [eqEl_len l l' h4]
      refine Ev.step (Ev.of_eq (g := fun n => some false) (fun n => ?_) (by simpa using Ev.ret false))
      simp only [ref1_SameExpr, jn, bne, h1, h2, h3, Bool.not_true, cond_false]
      simp only [bne] at h5
      rw [h5]; rfl
  · intro q k m w k' m' w' b pre pre' h1 h2 h3 h4
    have : q = [] := List.eq_nil_of_length_eq_zero h4.symm
    subst this
    refine Ev.step (Ev.of_eq (g := fun n => some true) (fun n => ?_) (by simpa [eqEl] using Ev.ret true))
    simp only [ref1_SameExpr_L0, List.append_nil, ix_ge, cond_false]
  · intro x r ihx ihr q k m w k' m' w' b pre pre' h1 h2 h3 h4
    cases q with
    | nil => simp at h4
    | cons y q =>
      rw [szEl] at h2
      have hp : pre.length ≤ 1000000 := by simp at h1; omega
      refine Ev.step (Ev.of_eq (g := fun n => (ref1_SameExpr n x y).bind fun r6 => bif !r6 then some false else ref1_SameExpr_L0 n ⟨k, m, w, (pre ++ [x]) ++ r⟩ ⟨k', m', w', (pre' ++ [y]) ++ q⟩ b ((pre ++ [x]).length)) (fun n => ?_) (Ev.bind (ihx (by omega) y) ?_))
      · have l2 : idx (pre' ++ y :: q) (pre.length : Int) = some y := by rw [h3]; exact ix_get _ _ _
        simp only [ref1_SameExpr_L0, ix_lt, ix_get, l2, cond_true, Option.bind_some]
        rw [ix_wr pre x (by omega), ← ix_cons, ← ix_cons]
      · rw [eqEl]
        cases h5 : eqE x y
        · exact Ev.ret _
        · simp only [Bool.not_true, cond_false, Bool.true_and]
          exact ihr q k m w k' m' w' b (pre ++ [x]) (pre' ++ [y]) (by rw [← ix_cons]; exact h1) (by omega) (by simp [h3]) (by simpa using h4)

theorem rsameS_ev : (∀ s, szS s ≤ 1000000 → (∀ q, Ev (fun n => ref1_SameBlock n s.Body q) (eqSl s.Body q)) ∧ ∀ q, Ev (fun n => ref1_SameBlock n s.Else q) (eqSl s.Else q)) ∧
    ∀ l, ∀ (q : List Stmt) (pre pre' : List Stmt), (pre ++ l).length ≤ 1000000 → szSl l ≤ 1000000 → pre.length = pre'.length → l.length = q.length →
      Ev (fun n => ref1_SameBlock_L0 n (pre ++ l) (pre' ++ q) pre.length) (eqSl l q) := by
  have blk : ∀ l : List Stmt, szSl l ≤ 1000000 → (∀ (q : List Stmt) (pre pre' : List Stmt), (pre ++ l).length ≤ 1000000 → szSl l ≤ 1000000 → pre.length = pre'.length → l.length = q.length →
      Ev (fun n => ref1_SameBlock_L0 n (pre ++ l) (pre' ++ q) pre.length) (eqSl l q)) → ∀ q, Ev (fun n => ref1_SameBlock n l q) (eqSl l q) := by
    intro l h ih q
    have hl := len_Sl l
    by_cases h4 : l.length = q.length
    · have h5 : (ln l != ln q) = false := by rw [bne_len]; simp [h4]
      refine Ev.step (Ev.of_eq (g := fun n => ref1_SameBlock_L0 n l q 0) (fun n => ?_) (ih q [] [] (by simp; omega) h rfl h4))
      simp only [ref1_SameBlock, h5, cond_false]
    · have h5 : (ln l != ln q) = true := by rw [bne_len]; simp [h4]
      rw [eqSl_len l q h4]
      refine Ev.step (Ev.of_eq (g := fun n => some false) (fun n => ?_) (Ev.ret _))
      simp only [ref1_SameBlock, h5, cond_true]
  refine stmt_ind ?_ ?_ ?_
  · intro k w v m e b l a ihb ihl h
    rw [szS] at h
    exact ⟨blk b (by omega) ihb, blk l (by omega) ihl⟩
  · intro q pre pre' h1 h2 h3 h4
    have : q = [] := List.eq_nil_of_length_eq_zero h4.symm
    subst this
    refine Ev.step (Ev.of_eq (g := fun n => some true) (fun n => ?_) (by simpa [eqSl] using Ev.ret true))
    simp only [ref1_SameBlock_L0, List.append_nil, ix_ge, cond_false]
  · intro x r ihx ihr q pre pre' h1 h2 h3 h4
    cases q with
    | nil => simp at h4
    | cons y q =>
      rw [szSl] at h2
      have hp : pre.length ≤ 1000000 := by simp at h1; omega
      have hB := (ihx (by omega)).1
      have hL := (ihx (by omega)).2
      have next := ihr q (pre ++ [x]) (pre' ++ [y]) (by rw [← ix_cons]; exact h1) (by omega) (by simp [h3]) (by simpa using h4)
      have l2 : idx (pre' ++ y :: q) (pre.length : Int) = some y := by rw [h3]; exact ix_get _ _ _
      have hw := ix_wr pre x (by omega)
      obtain ⟨k, w, v, m, e, b, l, a⟩ := x
      obtain ⟨k', w', v', m', e', b', l', a'⟩ := y
      have hE := rsameE_ev.1 e (by rw [szS] at h2; omega) e'
      simp only at hB hL
      rw [eqSl, eqS]
      simp only
      cases c1 : (k == k')
      · exact Ev.step (Ev.of_eq (g := fun n => some false) (fun n => by simp only [ref1_SameBlock_L0, ix_lt, ix_get, l2, cond_true, Option.bind_some, jn, bne, c1, Bool.not_false]) (Ev.ret _))
      cases c2 : bytesEq w w'
      · exact Ev.step (Ev.of_eq (g := fun n => some false) (fun n => by simp only [ref1_SameBlock_L0, ix_lt, ix_get, l2, cond_true, cond_false, Option.bind_some, jn, bne, c1, c2, Bool.not_false, Bool.not_true]) (Ev.ret _))
      cases c3 : bytesEq v v'
      · exact Ev.step (Ev.of_eq (g := fun n => some false) (fun n => by simp only [ref1_SameBlock_L0, ix_lt, ix_get, l2, cond_true, cond_false, Option.bind_some, jn, bne, c1, c2, c3, Bool.not_false, Bool.not_true]) (Ev.ret _))
      cases c4 : (m == m')
      · exact Ev.step (Ev.of_eq (g := fun n => some false) (fun n => by simp only [ref1_SameBlock_L0, ix_lt, ix_get, l2, cond_true, cond_false, Option.bind_some, jn, bne, c1, c2, c3, c4, Bool.not_false, Bool.not_true]) (Ev.ret _))
      simp only [Bool.true_and]
      have key : ∀ res, Ev (fun n => (ref1_SameExpr n e e').bind fun r6 => bif !r6 then some false else (ref1_SameBlock n b b').bind fun r7 => bif !r7 then some false else (ref1_SameBlock n l l').bind fun r8 => bif !r8 then some false else
          ref1_SameBlock_L0 n (pre ++ ⟨k, w, v, m, e, b, l, a⟩ :: r) (pre' ++ ⟨k', w', v', m', e', b', l', a'⟩ :: q) (wr ((pre.length : Int) + 1))) res → Ev (fun n => ref1_SameBlock_L0 n (pre ++ ⟨k, w, v, m, e, b, l, a⟩ :: r) (pre' ++ ⟨k', w', v', m', e', b', l', a'⟩ :: q) pre.length) res := by
        intro res h
        refine Ev.step (Ev.of_eq (fun n => ?_) h)
        simp only [ref1_SameBlock_L0, ix_lt, ix_get, l2, cond_true, cond_false, Option.bind_some, jn, bne, c1, c2, c3, c4, Bool.not_true]
      refine key _ (Ev.bind hE ?_)
      cases c5 : eqE e e'
      · exact Ev.ret _
      simp only [Bool.not_true, cond_false, Bool.true_and]
      refine Ev.bind (hB b') ?_
      cases c6 : eqSl b b'
      · exact Ev.ret _
      simp only [Bool.not_true, cond_false, Bool.true_and]
      refine Ev.bind (hL l') ?_
      cases c7 : eqSl l l'
      · exact Ev.ret _
      simp only [Bool.not_true, cond_false, Bool.true_and]
      rw [hw, ix_cons pre, ix_cons pre']
      exact next

theorem rsame_ev (l q : List Stmt) (h : szSl l ≤ 1000000) : Ev (fun n => ref1_SameBlock n l q) (eqSl l q) := by
  have hl := len_Sl l
  by_cases h4 : l.length = q.length
  · have h5 : (ln l != ln q) = false := by rw [bne_len]; simp [h4]
    refine Ev.step (Ev.of_eq (g := fun n => ref1_SameBlock_L0 n l q 0) (fun n => ?_) (rsameS_ev.2 l q [] [] (by simp; omega) h rfl h4))
    simp only [ref1_SameBlock, h5, cond_false]
  · have h5 : (ln l != ln q) = true := by rw [bne_len]; simp [h4]
    rw [eqSl_len l q h4]
    refine Ev.step (Ev.of_eq (g := fun n => some false) (fun n => ?_) (Ev.ret _))
    simp only [ref1_SameBlock, h5, cond_true]
end Go.Su.Ytogllinpkijkpaa
