/-
  EraseTwice: what its code computes is true.
-/
import Derived.Test.YtfmgnboplbgniaaZPlErase
import Derived.Test.YtfmgnboplbgniaaZPlShow
import Derived.Test.YtfmgnboplbgniaaZPlTok
import Derived.Test.YtfmgnboplbgniaaZPlParse
import Derived.Test.YtfmgnboplbgniaaZRowT
namespace Go.Su.Ytfmgnboplbgniaa
open Go.Mx Go.Proofs
set_option linter.unusedVariables false
set_option linter.unusedSimpArgs false
set_option maxHeartbeats 4000000
mutual
def eqE : Expr → Expr → Bool
 | ⟨k, n, w, l⟩, e => (k == e.Kind) && ((n == e.N) && (bytesEq w e.Name && eqEl l e.Of))
def eqEl : List Expr → List Expr → Bool
 | [], [] => true
 | x :: r, y :: q => eqE x y && eqEl r q
 | _, _ => false
end
mutual
def eqS : Stmt → Stmt → Bool
 | ⟨k, w, v, m, e, b, l, _⟩, s => (k == s.Kind) && (bytesEq w s.Name && (bytesEq v s.Other && ((m == s.N) && (eqE e s.E && (eqSl b s.Body && eqSl l s.Else)))))
def eqSl : List Stmt → List Stmt → Bool
 | [], [] => true
 | x :: r, y :: q => eqS x y && eqSl r q
 | _, _ => false
end
theorem bytesEq_self (a : ByteArray) : bytesEq a a = true := by rw [bytesEq_eq]; simp
theorem eqE_refl : (∀ e, eqE e e = true) ∧ ∀ l, eqEl l l = true := by
 refine expr_ind ?_ (by simp [eqEl]) ?_
 ·intro k n w l h
  rw [eqE]; simp [bytesEq_self, h]
 ·intro e r h1 h2
  rw [eqEl, h1, h2]; rfl
theorem eqS_refl : (∀ e, eqS e e = true) ∧ ∀ l, eqSl l l = true := by
 refine stmt_ind ?_ (by simp [eqSl]) ?_
 ·intro k w v m e b l a h1 h2
  rw [eqS]; simp [bytesEq_self, eqE_refl.1, h1, h2]
 ·intro e r h1 h2
  rw [eqSl, h1, h2]; rfl
theorem eqEl_len : ∀ l q : List Expr, l.length ≠ q.length → eqEl l q = false
 | [], [], h => absurd rfl h
 | [], _ :: _, _ => by simp [eqEl]
 | _ :: _, [], _ => by simp [eqEl]
 | x :: r, y :: q, h => by rw [eqEl, eqEl_len r q (by simpa using h), Bool.and_false]
theorem eqSl_len : ∀ l q : List Stmt, l.length ≠ q.length → eqSl l q = false
 | [], [], h => absurd rfl h
 | [], _ :: _, _ => by simp [eqSl]
 | _ :: _, [], _ => by simp [eqSl]
 | x :: r, y :: q, h => by rw [eqSl, eqSl_len r q (by simpa using h), Bool.and_false]
theorem bne_len {α β : Type} (l : List α) (q : List β) : (ln l != ln q) = !decide (l.length = q.length) := by
 by_cases h : l.length = q.length
 ·have : ln l = ln q := by show (l.length : Int) = q.length; omega
  rw [this]; simp [h]
 ·have : ln l ≠ ln q := by show (l.length : Int) ≠ q.length; omega
  simp [h, this]
theorem rsameE_ev : (∀ e, szE e ≤ 1000000 → ∀ f, Ev (fun n => ref1_SameExpr n e f) (eqE e f)) ∧
  ∀ l, ∀ (q : List Expr) (k m : Int) (w : ByteArray) (k' m' : Int) (w' : ByteArray) (b : Bool) (pre pre' : List Expr), (pre ++ l).length ≤ 1000000 → szEl l ≤ 1000000 → pre.length = pre'.length → l.length = q.length →
   Ev (fun n => ref1_SameExpr_L0 n ⟨k, m, w, pre ++ l⟩ ⟨k', m', w', pre' ++ q⟩ b pre.length) (eqEl l q) := by
 refine expr_ind ?_ ?_ ?_
 ·intro k m w l ih h f
  obtain ⟨k', m', w', l'⟩ := f
  rw [szE] at h
  have hl := len_El l
  rw [eqE]
  simp only
  cases h1 : (k == k')
  ·exact Ev.step (Ev.of_eq (g := fun n => some false) (fun n => by simp only [ref1_SameExpr, jn, bne, h1, Bool.not_false, cond_true]) (Ev.ret _))
  cases h2 : (m == m')
  ·exact Ev.step (Ev.of_eq (g := fun n => some false) (fun n => by simp only [ref1_SameExpr, jn, bne, h1, h2, Bool.not_false, Bool.not_true, cond_true, cond_false]) (Ev.ret _))
  cases h3 : bytesEq w w'
  ·exact Ev.step (Ev.of_eq (g := fun n => some false) (fun n => by simp only [ref1_SameExpr, jn, bne, h1, h2, h3, Bool.not_false, Bool.not_true, cond_true, cond_false]) (Ev.ret _))
  by_cases h4 : l.length = l'.length
  ·have h5 : (ln l != ln l') = false := by rw [bne_len]; simp [h4]
   simp only [Bool.true_and]
   refine Ev.step (Ev.of_eq (g := fun n => ref1_SameExpr_L0 n ⟨k, m, w, l⟩ ⟨k', m', w', l'⟩ false 0) (fun n => ?_) (ih l' k m w k' m' w' false [] [] (by simp; omega) (by omega) rfl h4))
   simp only [ref1_SameExpr, jn, bne, h1, h2, h3, Bool.not_true, cond_false]
   simp only [bne] at h5
   rw [h5]; rfl
  ·have h5 : (ln l != ln l') = true := by rw [bne_len]; simp [h4]
   rw [eqEl_len l l' h4]
   refine Ev.step (Ev.of_eq (g := fun n => some false) (fun n => ?_) (by simpa using Ev.ret false))
   simp only [ref1_SameExpr, jn, bne, h1, h2, h3, Bool.not_true, cond_false]
   simp only [bne] at h5
   rw [h5]; rfl
 ·intro q k m w k' m' w' b pre pre' h1 h2 h3 h4
  have : q = [] := List.eq_nil_of_length_eq_zero h4.symm
  subst this
  refine Ev.step (Ev.of_eq (g := fun n => some true) (fun n => ?_) (by simpa [eqEl] using Ev.ret true))
  simp only [ref1_SameExpr_L0, List.append_nil, ix_ge, cond_false]
 ·intro x r ihx ihr q k m w k' m' w' b pre pre' h1 h2 h3 h4
  cases q with
  | nil => simp at h4
  | cons y q =>
   rw [szEl] at h2
   have hp : pre.length ≤ 1000000 := by simp at h1; omega
   refine Ev.step (Ev.of_eq (g := fun n => (ref1_SameExpr n x y).bind fun r6 => bif !r6 then some false else ref1_SameExpr_L0 n ⟨k, m, w, (pre ++ [x]) ++ r⟩ ⟨k', m', w', (pre' ++ [y]) ++ q⟩ b ((pre ++ [x]).length)) (fun n => ?_) (Ev.bind (ihx (by omega) y) ?_))
   ·have l2 : idx (pre' ++ y :: q) (pre.length : Int) = some y := by rw [h3]; exact ix_get _ _ _
    simp only [ref1_SameExpr_L0, ix_lt, ix_get, l2, cond_true, Option.bind_some]
    rw [ix_wr pre x (by omega), ← ix_cons, ← ix_cons]
   ·rw [eqEl]
    cases h5 : eqE x y
    ·exact Ev.ret _
    ·simp only [Bool.not_true, cond_false, Bool.true_and]
     exact ihr q k m w k' m' w' b (pre ++ [x]) (pre' ++ [y]) (by rw [← ix_cons]; exact h1) (by omega) (by simp [h3]) (by simpa using h4)
theorem rsameS_ev : (∀ s, szS s ≤ 1000000 → (∀ q, Ev (fun n => ref1_SameBlock n s.Body q) (eqSl s.Body q)) ∧ ∀ q, Ev (fun n => ref1_SameBlock n s.Else q) (eqSl s.Else q)) ∧
  ∀ l, ∀ (q : List Stmt) (pre pre' : List Stmt), (pre ++ l).length ≤ 1000000 → szSl l ≤ 1000000 → pre.length = pre'.length → l.length = q.length →
   Ev (fun n => ref1_SameBlock_L0 n (pre ++ l) (pre' ++ q) pre.length) (eqSl l q) := by
 have blk : ∀ l : List Stmt, szSl l ≤ 1000000 → (∀ (q : List Stmt) (pre pre' : List Stmt), (pre ++ l).length ≤ 1000000 → szSl l ≤ 1000000 → pre.length = pre'.length → l.length = q.length →
   Ev (fun n => ref1_SameBlock_L0 n (pre ++ l) (pre' ++ q) pre.length) (eqSl l q)) → ∀ q, Ev (fun n => ref1_SameBlock n l q) (eqSl l q) := by
  intro l h ih q
  have hl := len_Sl l
  by_cases h4 : l.length = q.length
  ·have h5 : (ln l != ln q) = false := by rw [bne_len]; simp [h4]
   refine Ev.step (Ev.of_eq (g := fun n => ref1_SameBlock_L0 n l q 0) (fun n => ?_) (ih q [] [] (by simp; omega) h rfl h4))
   simp only [ref1_SameBlock, h5, cond_false]
  ·have h5 : (ln l != ln q) = true := by rw [bne_len]; simp [h4]
   rw [eqSl_len l q h4]
   refine Ev.step (Ev.of_eq (g := fun n => some false) (fun n => ?_) (Ev.ret _))
   simp only [ref1_SameBlock, h5, cond_true]
 refine stmt_ind ?_ ?_ ?_
 ·intro k w v m e b l a ihb ihl h
  rw [szS] at h
  exact ⟨blk b (by omega) ihb, blk l (by omega) ihl⟩
 ·intro q pre pre' h1 h2 h3 h4
  have : q = [] := List.eq_nil_of_length_eq_zero h4.symm
  subst this
  refine Ev.step (Ev.of_eq (g := fun n => some true) (fun n => ?_) (by simpa [eqSl] using Ev.ret true))
  simp only [ref1_SameBlock_L0, List.append_nil, ix_ge, cond_false]
 ·intro x r ihx ihr q pre pre' h1 h2 h3 h4
  cases q with
  | nil => simp at h4
  | cons y q =>
   rw [szSl] at h2
   have hp : pre.length ≤ 1000000 := by simp at h1; omega
   have hB := (ihx (by omega)).1
   have hL := (ihx (by omega)).2
   have next := ihr q (pre ++ [x]) (pre' ++ [y]) (by rw [← ix_cons]; exact h1) (by omega) (by simp [h3]) (by simpa using h4)
   have l2 : idx (pre' ++ y :: q) (pre.length : Int) = some y := by rw [h3]; exact ix_get _ _ _
   have hw := ix_wr pre x (by omega)
   obtain ⟨k, w, v, m, e, b, l, a⟩ := x
   obtain ⟨k', w', v', m', e', b', l', a'⟩ := y
   have hE := rsameE_ev.1 e (by rw [szS] at h2; omega) e'
   simp only at hB hL
   rw [eqSl, eqS]
   simp only
   cases c1 : (k == k')
   ·exact Ev.step (Ev.of_eq (g := fun n => some false) (fun n => by simp only [ref1_SameBlock_L0, ix_lt, ix_get, l2, cond_true, Option.bind_some, jn, bne, c1, Bool.not_false]) (Ev.ret _))
   cases c2 : bytesEq w w'
   ·exact Ev.step (Ev.of_eq (g := fun n => some false) (fun n => by simp only [ref1_SameBlock_L0, ix_lt, ix_get, l2, cond_true, cond_false, Option.bind_some, jn, bne, c1, c2, Bool.not_false, Bool.not_true]) (Ev.ret _))
   cases c3 : bytesEq v v'
   ·exact Ev.step (Ev.of_eq (g := fun n => some false) (fun n => by simp only [ref1_SameBlock_L0, ix_lt, ix_get, l2, cond_true, cond_false, Option.bind_some, jn, bne, c1, c2, c3, Bool.not_false, Bool.not_true]) (Ev.ret _))
   cases c4 : (m == m')
   ·exact Ev.step (Ev.of_eq (g := fun n => some false) (fun n => by simp only [ref1_SameBlock_L0, ix_lt, ix_get, l2, cond_true, cond_false, Option.bind_some, jn, bne, c1, c2, c3, c4, Bool.not_false, Bool.not_true]) (Ev.ret _))
   simp only [Bool.true_and]
   have key : ∀ res, Ev (fun n => (ref1_SameExpr n e e').bind fun r6 => bif !r6 then some false else (ref1_SameBlock n b b').bind fun r7 => bif !r7 then some false else (ref1_SameBlock n l l').bind fun r8 => bif !r8 then some false else
     ref1_SameBlock_L0 n (pre ++ ⟨k, w, v, m, e, b, l, a⟩ :: r) (pre' ++ ⟨k', w', v', m', e', b', l', a'⟩ :: q) (wr ((pre.length : Int) + 1))) res → Ev (fun n => ref1_SameBlock_L0 n (pre ++ ⟨k, w, v, m, e, b, l, a⟩ :: r) (pre' ++ ⟨k', w', v', m', e', b', l', a'⟩ :: q) pre.length) res := by
    intro res h
    refine Ev.step (Ev.of_eq (fun n => ?_) h)
    simp only [ref1_SameBlock_L0, ix_lt, ix_get, l2, cond_true, cond_false, Option.bind_some, jn, bne, c1, c2, c3, c4, Bool.not_true]
   refine key _ (Ev.bind hE ?_)
   cases c5 : eqE e e'
   ·exact Ev.ret _
   simp only [Bool.not_true, cond_false, Bool.true_and]
   refine Ev.bind (hB b') ?_
   cases c6 : eqSl b b'
   ·exact Ev.ret _
   simp only [Bool.not_true, cond_false, Bool.true_and]
   refine Ev.bind (hL l') ?_
   cases c7 : eqSl l l'
   ·exact Ev.ret _
   simp only [Bool.not_true, cond_false, Bool.true_and]
   rw [hw, ix_cons pre, ix_cons pre']
   exact next
theorem rsame_ev (l q : List Stmt) (h : szSl l ≤ 1000000) : Ev (fun n => ref1_SameBlock n l q) (eqSl l q) := by
 have hl := len_Sl l
 by_cases h4 : l.length = q.length
 ·have h5 : (ln l != ln q) = false := by rw [bne_len]; simp [h4]
  refine Ev.step (Ev.of_eq (g := fun n => ref1_SameBlock_L0 n l q 0) (fun n => ?_) (rsameS_ev.2 l q [] [] (by simp; omega) h rfl h4))
  simp only [ref1_SameBlock, h5, cond_false]
 ·have h5 : (ln l != ln q) = true := by rw [bne_len]; simp [h4]
  rw [eqSl_len l q h4]
  refine Ev.step (Ev.of_eq (g := fun n => some false) (fun n => ?_) (Ev.ret _))
  simp only [ref1_SameBlock, h5, cond_true]
end Go.Su.Ytfmgnboplbgniaa
namespace Go.Su.Ytfmgnboplbgniaa
open Go.Mx Go.Proofs
set_option linter.unusedVariables false
set_option linter.unusedSimpArgs false
set_option maxHeartbeats 4000000
def eqD (a b : Decl) : Bool := (a.Kind == b.Kind) && (bytesEq a.Name b.Name && (a.N == b.N))
def eqDl : List Decl → List Decl → Bool
 | [], [] => true
 | x :: r, y :: q => eqD x y && eqDl r q
 | _, _ => false
def eqT : List (List Stmt) → List (List Stmt) → Bool
 | [], [] => true
 | x :: r, y :: q => eqSl x y && eqT r q
 | _, _ => false
def eqP (p q : Prog) : Bool := eqDl p.Decls q.Decls && eqT p.Threads q.Threads
theorem eqDl_len : ∀ l q : List Decl, l.length ≠ q.length → eqDl l q = false
 | [], [], h => absurd rfl h
 | [], _ :: _, _ => by simp [eqDl]
 | _ :: _, [], _ => by simp [eqDl]
 | x :: r, y :: q, h => by rw [eqDl, eqDl_len r q (by simpa using h), Bool.and_false]
theorem eqT_len : ∀ l q : List (List Stmt), l.length ≠ q.length → eqT l q = false
 | [], [], h => absurd rfl h
 | [], _ :: _, _ => by simp [eqT]
 | _ :: _, [], _ => by simp [eqT]
 | x :: r, y :: q, h => by rw [eqT, eqT_len r q (by simpa using h), Bool.and_false]
theorem eqDl_refl : ∀ l : List Decl, eqDl l l = true
 | [] => by simp [eqDl]
 | x :: r => by simp [eqDl, eqD, bytesEq_self, eqDl_refl r]
theorem eqT_refl : ∀ l : List (List Stmt), eqT l l = true
 | [] => by simp [eqT]
 | x :: r => by simp [eqT, eqS_refl.2, eqT_refl r]
theorem eqP_refl (p : Prog) : eqP p p = true := by simp [eqP, eqDl_refl, eqT_refl]
theorem rsameD_L0 : ∀ (l q pre pre' : List Decl), (pre ++ l).length ≤ 1000000 → pre.length = pre'.length → l.length = q.length → Ev (fun n => ref1_SameDecls_L0 n (pre ++ l) (pre' ++ q) pre.length) (eqDl l q)
 | [], q, pre, pre', h1, h3, h4 => by
  have : q = [] := List.eq_nil_of_length_eq_zero h4.symm
  subst this
  refine Ev.step (Ev.of_eq (g := fun n => some true) (fun n => ?_) (by simpa [eqDl] using Ev.ret true))
  simp only [ref1_SameDecls_L0, List.append_nil, ix_ge, cond_false]
 | x :: r, [], pre, pre', h1, h3, h4 => by simp at h4
 | x :: r, y :: q, pre, pre', h1, h3, h4 => by
  have hp : pre.length ≤ 1000000 := by simp at h1; omega
  have l2 : idx (pre' ++ y :: q) (pre.length : Int) = some y := by rw [h3]; exact ix_get _ _ _
  have hw := ix_wr pre x (by omega)
  have nx := rsameD_L0 r q (pre ++ [x]) (pre' ++ [y]) (by rw [← ix_cons]; exact h1) (by simp [h3]) (by simpa using h4)
  rw [eqDl, eqD]
  cases c1 : (x.Kind == y.Kind)
  ·exact Ev.step (Ev.of_eq (g := fun n => some false) (fun n => by simp only [ref1_SameDecls_L0, ix_lt, ix_get, l2, cond_true, Option.bind_some, jn, bne, c1, Bool.not_false]) (Ev.ret _))
  cases c2 : bytesEq x.Name y.Name
  ·exact Ev.step (Ev.of_eq (g := fun n => some false) (fun n => by simp only [ref1_SameDecls_L0, ix_lt, ix_get, l2, cond_true, cond_false, Option.bind_some, jn, bne, c1, c2, Bool.not_false, Bool.not_true]) (Ev.ret _))
  cases c3 : (x.N == y.N)
  ·exact Ev.step (Ev.of_eq (g := fun n => some false) (fun n => by simp only [ref1_SameDecls_L0, ix_lt, ix_get, l2, cond_true, cond_false, Option.bind_some, jn, bne, c1, c2, c3, Bool.not_false, Bool.not_true]) (Ev.ret _))
  simp only [Bool.true_and]
  refine Ev.step (Ev.of_eq (fun n => ?_) nx)
  simp only [ref1_SameDecls_L0, ix_lt, ix_get, l2, cond_true, cond_false, Option.bind_some, jn, bne, c1, c2, c3, Bool.not_true, hw]
  rw [← ix_cons, ← ix_cons]
theorem rsameDs_ev (l q : List Decl) (h : l.length ≤ 1000000) : Ev (fun n => ref1_SameDecls n l q) (eqDl l q) := by
 by_cases h4 : l.length = q.length
 ·have h5 : (ln l != ln q) = false := by rw [bne_len]; simp [h4]
  refine Ev.of_eq (g := fun n => ref1_SameDecls_L0 n l q 0) (fun n => ?_) (rsameD_L0 l q [] [] (by simpa using h) rfl h4)
  simp only [ref1_SameDecls, h5, cond_false]
 ·have h5 : (ln l != ln q) = true := by rw [bne_len]; simp [h4]
  rw [eqDl_len l q h4]
  refine Ev.of_eq (g := fun n => some false) (fun n => ?_) (Ev.ret _)
  simp only [ref1_SameDecls, h5, cond_true]
theorem rsameT_L0 (D D' : List Decl) (b : Bool) : ∀ (l q pre pre' : List (List Stmt)), (pre ++ l).length ≤ 1000000 → szT l ≤ 1000000 → pre.length = pre'.length → l.length = q.length → Ev (fun n => ref1_Same_L0 n ⟨D, pre ++ l⟩ ⟨D', pre' ++ q⟩ b pre.length) (eqT l q)
 | [], q, pre, pre', h1, hz, h3, h4 => by
  have : q = [] := List.eq_nil_of_length_eq_zero h4.symm
  subst this
  refine Ev.step (Ev.of_eq (g := fun n => some true) (fun n => ?_) (by simpa [eqT] using Ev.ret true))
  simp only [ref1_Same_L0, List.append_nil, ix_ge, cond_false]
 | x :: r, [], pre, pre', h1, hz, h3, h4 => by simp at h4
 | x :: r, y :: q, pre, pre', h1, hz, h3, h4 => by
  rw [szT] at hz
  have hp : pre.length ≤ 1000000 := by simp at h1; omega
  have l2 : idx (pre' ++ y :: q) (pre.length : Int) = some y := by rw [h3]; exact ix_get _ _ _
  have nx := rsameT_L0 D D' b r q (pre ++ [x]) (pre' ++ [y]) (by rw [← ix_cons]; exact h1) (by omega) (by simp [h3]) (by simpa using h4)
  refine Ev.step (Ev.of_eq (g := fun n => (ref1_SameBlock n x y).bind fun r7 => bif !r7 then some false else ref1_Same_L0 n ⟨D, (pre ++ [x]) ++ r⟩ ⟨D', (pre' ++ [y]) ++ q⟩ b ((pre ++ [x]).length)) (fun n => ?_) (Ev.bind (rsame_ev x y (by omega)) ?_))
  ·simp only [ref1_Same_L0, ix_lt, ix_get, l2, cond_true, Option.bind_some]
   rw [ix_wr pre x (by omega), ← ix_cons, ← ix_cons]
  ·rw [eqT]
   cases c : eqSl x y
   ·exact Ev.ret _
   ·simpa using nx
theorem rsameP_ev (p q : Prog) (hd : p.Decls.length ≤ 1000000) (hz : szT p.Threads ≤ 1000000) : Ev (fun n => ref1_Same n p q) (eqP p q) := by
 obtain ⟨D, ts⟩ := p
 obtain ⟨D', ts'⟩ := q
 have hT := len_T ts
 simp only at hd hz
 refine Ev.of_eq (g := fun n => (ref1_SameDecls n D D').bind fun r3 => bif !r3 then some false else bif ((ln ts) != (ln ts')) then some false else ref1_Same_L0 n ⟨D, ts⟩ ⟨D', ts'⟩ ((ln ts) != (ln ts')) 0) (fun n => ?_) (Ev.bind (rsameDs_ev D D' hd) ?_)
 ·simp only [ref1_Same, jn, cond_true]
 ·unfold eqP
  simp only
  cases c : eqDl D D'
  ·exact Ev.ret _
  simp only [Bool.not_true, cond_false, Bool.true_and]
  by_cases h4 : ts.length = ts'.length
  ·have h5 : (ln ts != ln ts') = false := by rw [bne_len]; simp [h4]
   simp only [h5, cond_false]
   exact rsameT_L0 D D' false ts ts' [] [] (by simp; omega) hz rfl h4
  ·have h5 : (ln ts != ln ts') = true := by rw [bne_len]; simp [h4]
   simp only [h5, cond_true]
   rw [eqT_len ts ts' h4]; exact Ev.ret _
end Go.Su.Ytfmgnboplbgniaa
namespace Go.Su.Ytfmgnboplbgniaa
open Go.Mx Go.Proofs
set_option linter.unusedVariables false
set_option linter.unusedSimpArgs false
set_option maxHeartbeats 4000000
theorem has_app (a b : List ByteArray) (w : ByteArray) : has (a ++ b) w = (has a w || has b w) := by simp [has]
theorem lk_app (a b : List ByteArray) (k : Int) (w : ByteArray) : lk (a ++ b) k w = (lk a k w || lk b k w) := by
 unfold lk; rw [has_app]; cases (k == 2 || k == 3) <;> cases has a w <;> cases has b w <;> rfl
theorem erL_app (nm : List ByteArray) : ∀ l q : List Stmt, erL nm (l ++ q) = erL nm l ++ erL nm q
 | [], q => by simp [erL]
 | s :: r, q => by rw [List.cons_append, erL, erL, erL_app nm r q, List.append_assoc]
theorem er_er (a b : List ByteArray) : (∀ s, erL b (erS a s) = erS (a ++ b) s) ∧ ∀ l, erL b (erL a l) = erL (a ++ b) l := by
 refine stmt_ind ?_ (by simp [erL]) ?_
 ·intro k w v m e x y c h1 h2
  rw [erS, erS, lk_app]
  cases ha : lk a k w
  ·simp only [cond_false, erL, erS, List.append_nil, Bool.false_or, h1, h2]
  ·simp [erL]
 ·intro s r h1 h2
  rw [erL, erL, erL_app, h1, h2]
theorem er_nil : (∀ s, erS [] s = [s]) ∧ ∀ l, erL [] l = l := by
 refine stmt_ind ?_ (by simp [erL]) ?_
 ·intro k w v m e x y c h1 h2
  have : lk [] k w = false := by unfold lk has; simp
  rw [erS, this, h1, h2]; rfl
 ·intro s r h1 h2
  rw [erL, h1, h2]; rfl
theorem er_congr (a b : List ByteArray) (h : ∀ w, has a w = has b w) : (∀ s, erS a s = erS b s) ∧ ∀ l, erL a l = erL b l := by
 refine stmt_ind ?_ (by simp [erL]) ?_
 ·intro k w v m e x y c h1 h2
  have : lk a k w = lk b k w := by unfold lk; rw [h]
  rw [erS, erS, this, h1, h2]
 ·intro s r h1 h2
  rw [erL, erL, h1, h2]
theorem er_idem (a : List ByteArray) (l : List Stmt) : erL a (erL a l) = erL a l := by
 rw [(er_er a a).2, (er_congr (a ++ a) a (fun w => by rw [has_app, Bool.or_self])).2]
theorem kp_app (a b : List ByteArray) (d : Decl) : kp (a ++ b) d = (kp a d && kp b d) := by
 unfold kp; rw [has_app]; cases (d.Kind == 5) <;> cases has a d.Name <;> cases has b d.Name <;> rfl
theorem kp_nil (d : Decl) : kp [] d = true := by unfold kp has; simp
theorem up_nil (d : Decl) : up [] d = d := by unfold up has; simp
theorem kp_up (a um : List ByteArray) (d : Decl) : kp a (up um d) = kp a d := by
 unfold kp up
 cases c : (d.Kind == 3)
 ·rfl
 ·have : (d.Kind == 5) = false := by rw [beq_iff_eq] at c; rw [c]; rfl
  cases has um d.Name
  ·rfl
  ·simp only [Bool.and_self, cond_true, this, Bool.false_and]; rfl
theorem up_up (um : List ByteArray) (d : Decl) : up um (up um d) = up um d := by
 cases c : (d.Kind == 3) && has um d.Name
 ·have : up um d = d := by unfold up; rw [c]; rfl
  rw [this, this]
 ·have : up um d = ⟨1, d.Name, d.N, d.At⟩ := by unfold up; rw [c]; rfl
  rw [this]; rfl
theorem erD_none (nm : List ByteArray) (D : List Decl) : erD nm [] D = D.filter (kp nm) := by
 unfold erD
 rw [show (up [] : Decl → Decl) = id from funext up_nil, List.map_id]
theorem step_er (pre : List ByteArray) (x : ByteArray) (p : Prog) : erP [x] [] (erP pre [] p) = erP (pre ++ [x]) [] p := by
 unfold erP
 simp only [erD_none, List.filter_filter, List.map_map]
 congr 1
 ·congr 1; funext d; rw [kp_app, Bool.and_comm]
 ·congr 1; funext l; exact (er_er pre [x]).2 l
theorem end_er (nm um : List ByteArray) (p : Prog) : erP [] um (erP nm [] p) = erP nm um p := by
 unfold erP
 simp only [erD_none, List.map_map]
 congr 1
 ·unfold erD
  rw [show (kp [] : Decl → Bool) = fun _ => true from funext kp_nil]
  simp
 ·congr 1; funext l; exact er_nil.2 _
theorem idem_er (nm um : List ByteArray) (p : Prog) : erP nm um (erP nm um p) = erP nm um p := by
 unfold erP
 simp only [List.map_map]
 congr 1
 ·unfold erD
  rw [List.filter_map, List.filter_filter, List.map_map]
  have e1 : ((fun d => (kp nm ∘ up um) d && kp nm d) : Decl → Bool) = kp nm := by funext d; simp [kp_up]
  have e2 : (up um ∘ up um) = up um := by funext d; exact up_up um d
  rw [e1, e2]
 ·congr 1; funext l; exact er_idem nm l
theorem four_step (i : Nat) (h : i < 4) : ∃ w p, idx [k_m, k_x, k_l, x_66697830] (i : Int) = some w ∧ ishl .i64 1 (IntKind.u64.wrap (i : Int)) = some p ∧ (p == 0) = false := by
 match i, h with
 | 0, _ => exact ⟨k_m, 1, rfl, by kernel_rfl, rfl⟩
 | 1, _ => exact ⟨k_x, 2, rfl, by kernel_rfl, rfl⟩
 | 2, _ => exact ⟨k_l, 4, rfl, by kernel_rfl, rfl⟩
 | 3, _ => exact ⟨x_66697830, 8, rfl, by kernel_rfl, rfl⟩
 | j + 4, h => exact absurd h (by omega)
theorem law27_EraseTwice_true (a0 : Int) (a1 a2 a3 : List Act) (a4 : Int) (h0 : okInt .i64 a0) (h1 : okActs a1) (h2 : okActs a2) (h3 : okActs a3) (h4 : okInt .i64 a4) : ∃ n, law27_EraseTwice n a0 a1 a2 a3 a4 = some true := by
 obtain ⟨w, hw⟩ := Good_ev a0 a1 a2 a3 5 (by omega)
 obtain ⟨⟨D, ts⟩, i, e, hpar, ok1⟩ := parse_ev w
 obtain ⟨okD, okn, okz, okw⟩ := ok1
 simp only at okD okn okz okw
 have hD : D.length ≤ 900000 := by have := okD.1; omega
 have hread : Ev (fun n => law27_read n w) ⟨D, ts⟩ := Ev.of_eq (g := fun n => (ref1_Parse n w).bind fun r1 => some r1.1) (fun n => by simp only [law27_read]) (Ev.bind hpar (Ev.ret _))
 have p1 : ∀ n, hand_Pick n a4 16 = some (a4 % 16) := fun n => pick_eq n _ 16 (by omega) (by omega)

 have again : ∀ (nm um nm' um' : List ByteArray), nm'.length ≤ 4000000 → um'.length ≤ 4000000 → Ev (fun n => erase_Of n (erP nm um ⟨D, ts⟩) nm' um') (erP nm' um' (erP nm um ⟨D, ts⟩)) := by
  intro nm um nm' um' h1 h2
  have hf : (erD nm um D).length ≤ 900000 := by unfold erD; rw [List.length_map]; exact Nat.le_trans (List.length_filter_le _ _) hD
  have hz := szT_er nm ts
  exact Of_ev (erD nm um D) (ts.map (erL nm)) nm' um' h1 h2 hf (by omega)
 have last : ∀ (l3 : List ByteArray), l3.length ≤ 4 → ∀ (i4 : Int) (l pre : List ByteArray), l3 = pre ++ l → Ev (fun n => law27_EraseTwice_L1 n a0 a1 a2 a3 a4 w ⟨D, ts⟩ l3 i4 (erP l3 [k_a] ⟨D, ts⟩) (erP pre [] ⟨D, ts⟩) pre.length) true := by
  intro l3 h3 i4 l
  induction l with
  | nil =>
   intro pre e
   rw [List.append_nil] at e
   subst e
   have s1 := again l3 [] [] [k_a] (by simp) (by simp)
   rw [end_er] at s1
   have s2 := again l3 [k_a] l3 [k_a] (by omega) (by simp)
   rw [idem_er] at s2
   have hf : (erD l3 [k_a] D).length ≤ 900000 := by unfold erD; rw [List.length_map]; exact Nat.le_trans (List.length_filter_le _ _) hD
   have hz := szT_er l3 ts
   have sm := rsameP_ev (erP l3 [k_a] ⟨D, ts⟩) (erP l3 [k_a] ⟨D, ts⟩) (by show (erD l3 [k_a] D).length ≤ 1000000; omega) (by show szT (ts.map (erL l3)) ≤ 1000000; omega)
   rw [eqP_refl] at sm
   have hl : (ln (erP l3 [k_a] ⟨D, ts⟩).Threads == ln (⟨D, ts⟩ : Prog).Threads) = true := by
    rw [beq_iff_eq]
    show (((ts.map (erL l3)).length : Nat) : Int) = ((ts.length : Nat) : Int)
    rw [List.length_map]
   refine Ev.step (Ev.of_eq (g := fun n => (erase_Of n (erP l3 [] ⟨D, ts⟩) [] [k_a]).bind fun r17 => (law27_known n).bind fun r20 => bif r20 then ((erase_Of n (erP l3 [k_a] ⟨D, ts⟩) l3 [k_a]).bind fun r21 => (ref1_Same n r21 (erP l3 [k_a] ⟨D, ts⟩)).bind fun r22 => bif r22 then ((ref1_Same n (erP l3 [k_a] ⟨D, ts⟩) r17).bind fun r23 => bif r23 then some ((ln (erP l3 [k_a] ⟨D, ts⟩).Threads) == (ln (⟨D, ts⟩ : Prog).Threads)) else some false) else some false) else some false) (fun n => ?_)
    (Ev.bind s1 (Ev.bind known27_ev (Ev.yes rfl (Ev.bind s2 (Ev.bind sm (Ev.yes rfl (Ev.bind sm (Ev.yes rfl (by rw [hl]; exact Ev.ret _))))))))))
   simp only [law27_EraseTwice_L1, ix_ge, cond_false, jn]
  | cons x r ih =>
   intro pre e
   have hp : pre.length + 1 ≤ 4 := by rw [e] at h3; simp at h3; omega
   have s1 := again pre [] [x] [] (by simp) (by simp)
   rw [step_er] at s1
   have nx := ih (pre ++ [x]) (by rw [e]; exact ix_cons _ _ _)
   have d : decide ((pre.length : Int) < ln l3) = true := by rw [e]; exact ix_lt _ _ _
   have g : idx l3 (pre.length : Int) = some x := by rw [e]; exact ix_get _ _ _
   refine Ev.step (Ev.of_eq (g := fun n => (erase_Of n (erP pre [] ⟨D, ts⟩) [x] []).bind fun r16 => law27_EraseTwice_L1 n a0 a1 a2 a3 a4 w ⟨D, ts⟩ l3 i4 (erP l3 [k_a] ⟨D, ts⟩) r16 ((pre ++ [x]).length)) (fun n => ?_) (Ev.bind s1 nx))
   simp only [law27_EraseTwice_L1, d, g, cond_true, Option.bind_some]
   rw [ix_wr pre x (by omega)]
 have first : erP [] [] ⟨D, ts⟩ = ⟨D, ts⟩ := by
  unfold erP
  rw [erD_none, show (kp [] : Decl → Bool) = fun _ => true from funext kp_nil, show (erL [] : List Stmt → List Stmt) = id from funext er_nil.2]
  simp
 have loop : ∀ (m i : Nat) (l3 : List ByteArray), 4 - i ≤ m → i ≤ 4 → l3.length ≤ i → Ev (fun n => law27_EraseTwice_L0 n a0 a1 a2 a3 a4 w ⟨D, ts⟩ l3 (i : Int)) true := by
  intro m
  induction m with
  | zero =>
   intro i l3 hm hi h3
   have d1 : decide ((i : Int) < 4) = false := decide_eq_false (by omega)
   have nx := last l3 (by omega) (i : Int) l3 [] rfl
   rw [first] at nx
   refine Ev.step (Ev.of_eq (g := fun n => (erase_Of n ⟨D, ts⟩ l3 [k_a]).bind fun r12 => law27_EraseTwice_L1 n a0 a1 a2 a3 a4 w ⟨D, ts⟩ l3 (i : Int) r12 ⟨D, ts⟩ 0) (fun n => ?_) (Ev.bind (Of_ev D ts l3 [k_a] (by omega) (by simp) hD (by omega)) nx))
   simp only [law27_EraseTwice_L0, d1, cond_false]
  | succ m ih =>
   intro i l3 hm hi h3
   by_cases hlt : i < 4
   ·have d1 : decide ((i : Int) < 4) = true := decide_eq_true (by omega)
    have e3 : wr ((i : Int) + 1) = ((i + 1 : Nat) : Int) := by rw [wr_of (by omega)]; rfl
    obtain ⟨x, p, g1, g2, g3⟩ := four_step i hlt
    have rm : room s_string.i1.bytes l3.length [x].length = true := roomN _ _ (by simp; omega)
    cases c1 : (((wr ((a4 % 16).tdiv p)).tmod 2) == 1)
    ·exact Ev.step (Ev.of_eq (fun n => by simp only [law27_EraseTwice_L0, d1, cond_true, jn, g1, g2, g3, p1, c1, cond_false, Option.bind_some, e3]) (ih (i + 1) l3 (by omega) (by omega) (by omega)))
    ·exact Ev.step (Ev.of_eq (fun n => by simp only [law27_EraseTwice_L0, d1, cond_true, jn, g1, g2, g3, p1, c1, cond_false, Option.bind_some, e3, rm]) (ih (i + 1) (l3 ++ [x]) (by omega) (by omega) (by simp; omega)))
   ·exact ih i l3 (by omega) hi h3
 refine Ev.get ?_
 exact Ev.of_eq (g := fun n => (hand_Good n a0 a1 a2 a3 5).bind fun r1 => (law27_read n r1).bind fun r2 => law27_EraseTwice_L0 n a0 a1 a2 a3 a4 r1 r2 [] 0) (fun n => by simp only [law27_EraseTwice]) (Ev.bind hw (Ev.bind hread (loop 4 0 [] (by omega) (by omega) (by simp))))
end Go.Su.Ytfmgnboplbgniaa
