/-
  Induction over programs, rounds over lists.
-/
import Derived.Test.YtfmgnboplbgniaaPlHand
namespace Go.Su.Ytfmgnboplbgniaa
open Go.Mx Go.Proofs
set_option linter.unusedVariables false
set_option linter.unusedSimpArgs false

theorem expr_ind {P : Expr → Prop} {Q : List Expr → Prop} (h1 : ∀ k n w l, Q l → P ⟨k, n, w, l⟩) (h2 : Q []) (h3 : ∀ e r, P e → Q r → Q (e :: r)) : (∀ e, P e) ∧ ∀ l, Q l :=
  ⟨fun e => Expr.rec (motive_1 := P) (motive_2 := Q) h1 h2 h3 e, fun l => Expr.rec_1 (motive_1 := P) (motive_2 := Q) h1 h2 h3 l⟩
theorem stmt_ind {P : Stmt → Prop} {Q : List Stmt → Prop} (h1 : ∀ k w v m e b l a, Q b → Q l → P ⟨k, w, v, m, e, b, l, a⟩) (h2 : Q []) (h3 : ∀ s r, P s → Q r → Q (s :: r)) : (∀ s, P s) ∧ ∀ l, Q l :=
  ⟨fun e => Stmt.rec (motive_1 := P) (motive_2 := Q) h1 h2 h3 e, fun l => Stmt.rec_1 (motive_1 := P) (motive_2 := Q) h1 h2 h3 l⟩

section loops
variable {α : Type}
theorem ix_lt (pre : List α) (x : α) (r : List α) : decide ((pre.length : Int) < ln (pre ++ x :: r)) = true := decide_eq_true (by show (pre.length : Int) < ((pre ++ x :: r).length : Int); simp; omega)
theorem ix_ge (l : List α) : decide ((l.length : Int) < ln l) = false := decide_eq_false (by show ¬ (l.length : Int) < l.length; omega)
theorem ix_get (pre : List α) (x : α) (r : List α) : idx (pre ++ x :: r) (pre.length : Int) = some x := idx_of (by omega) (by simp)
theorem ix_wr (pre : List α) (x : α) (h : pre.length + 1 ≤ 9223372036854775807) : wr ((pre.length : Int) + 1) = ((pre ++ [x]).length : Int) := by rw [wr_of (by omega)]; simp
theorem ix_cons (pre : List α) (x : α) (r : List α) : pre ++ x :: r = (pre ++ [x]) ++ r := by simp
end loops

end Go.Su.Ytfmgnboplbgniaa
