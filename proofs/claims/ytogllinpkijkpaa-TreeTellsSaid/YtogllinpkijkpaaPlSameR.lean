/-
  Programs that are alike: the document's answer.
-/
import Derived.Test.YtogllinpkijkpaaPlSame
namespace Go.Su.Ytogllinpkijkpaa
open Go.Mx Go.Proofs
set_option linter.unusedVariables false
set_option linter.unusedSimpArgs false
set_option maxHeartbeats 4000000

def eqD (a b : Decl) : Bool := (a.Kind == b.Kind) && (bytesEq a.Name b.Name && (a.N == b.N))
def eqDl : List Decl → List Decl → Bool
  | [], [] => true
  | x :: r, y :: q => eqD x y && eqDl r q
  | _, _ => false
def eqT : List (List Stmt) → List (List Stmt) → Bool
  | [], [] => true
  | x :: r, y :: q => eqSl x y && eqT r q
  | _, _ => false
def eqP (p q : Prog) : Bool := eqDl p.Decls q.Decls && eqT p.Threads q.Threads
theorem eqDl_len : ∀ l q : List Decl, l.length ≠ q.length → eqDl l q = false
  | [], [], h => absurd rfl h
  | [], _ :: _, _ => by simp [eqDl]
  | _ :: _, [], _ => by simp [eqDl]
  | x :: r, y :: q, h => by rw [eqDl, eqDl_len r q (by simpa using h), Bool.and_false]
theorem eqT_len : ∀ l q : List (List Stmt), l.length ≠ q.length → eqT l q = false
  | [], [], h => absurd rfl h
  | [], _ :: _, _ => by simp [eqT]
  | _ :: _, [], _ => by simp [eqT]
  | x :: r, y :: q, h => by rw [eqT, eqT_len r q (by simpa using h), Bool.and_false]
theorem eqDl_refl : ∀ l : List Decl, eqDl l l = true
  | [] => by simp [eqDl]
  | x :: r => by simp [eqDl, eqD, bytesEq_self, eqDl_refl r]
theorem eqT_refl : ∀ l : List (List Stmt), eqT l l = true
  | [] => by simp [eqT]
  | x :: r => by simp [eqT, eqS_refl.2, eqT_refl r]
theorem eqP_refl (p : Prog) : eqP p p = true := by simp [eqP, eqDl_refl, eqT_refl]

theorem rsameD_L0 : ∀ (l q pre pre' : List Decl), (pre ++ l).length ≤ 1000000 → pre.length = pre'.length → l.length = q.length → Ev (fun n => ref1_SameDecls_L0 n (pre ++ l) (pre' ++ q) pre.length) (eqDl l q)
  | [], q, pre, pre', h1, h3, h4 => by
    have : q = [] := List.eq_nil_of_length_eq_zero h4.symm
    subst this
    refine Ev.step (Ev.of_eq (g := fun n => some true) (fun n => ?_) (by simpa [eqDl] using Ev.ret true))
    simp only [ref1_SameDecls_L0, List.append_nil, ix_ge, cond_false]
  | x :: r, [], pre, pre', h1, h3, h4 => by simp at h4
  | x :: r, y :: q, pre, pre', h1, h3, h4 => by
    have hp : pre.length ≤ 1000000 := by simp at h1; omega
    have l2 : idx (pre' ++ y :: q) (pre.length : Int) = some y := by rw [h3]; exact ix_get _ _ _
    have hw := ix_wr pre x (by omega)
    have nx := rsameD_L0 r q (pre ++ [x]) (pre' ++ [y]) (by rw [← ix_cons]; exact h1) (by simp [h3]) (by simpa using h4)
    rw [eqDl, eqD]
    cases c1 : (x.Kind == y.Kind)
    · exact Ev.step (Ev.of_eq (g := fun n => some false) (fun n => by simp only [ref1_SameDecls_L0, ix_lt, ix_get, l2, cond_true, Option.bind_some, jn, bne, c1, Bool.not_false]) (Ev.ret _))
    cases c2 : bytesEq x.Name y.Name
    · exact Ev.step (Ev.of_eq (g := fun n => some false) (fun n => by simp only [ref1_SameDecls_L0, ix_lt, ix_get, l2, cond_true, cond_false, Option.bind_some, jn, bne, c1, c2, Bool.not_false, Bool.not_true]) (Ev.ret _))
    cases c3 : (x.N == y.N)
    · exact Ev.step (Ev.of_eq (g := fun n => some false) (fun n => by simp only [ref1_SameDecls_L0, ix_lt, ix_get, l2, cond_true, cond_false, Option.bind_some, jn, bne, c1, c2, c3, Bool.not_false, Bool.not_true]) (Ev.ret _))
    simp only [Bool.true_and]
    refine Ev.step (Ev.of_eq (fun n => ?_) nx)
    simp only [ref1_SameDecls_L0, ix_lt, ix_get, l2, cond_true, cond_false, Option.bind_some, jn, bne, c1, c2, c3, Bool.not_true, hw]
    rw [← ix_cons, ← ix_cons]
theorem rsameDs_ev (l q : List Decl) (h : l.length ≤ 1000000) : Ev (fun n => ref1_SameDecls n l q) (eqDl l q) := by
  by_cases h4 : l.length = q.length
  · have h5 : (ln l != ln q) = false := by rw [bne_len]; simp [h4]
    refine Ev.of_eq (g := fun n => ref1_SameDecls_L0 n l q 0) (fun n => ?_) (rsameD_L0 l q [] [] (by simpa using h) rfl h4)
    simp only [ref1_SameDecls, h5, cond_false]
  · have h5 : (ln l != ln q) = true := by rw [bne_len]; simp [h4]
    rw [eqDl_len l q h4]
    refine Ev.of_eq (g := fun n => some false) (fun n => ?_) (Ev.ret _)
    simp only [ref1_SameDecls, h5, cond_true]

theorem rsameT_L0 (D D' : List Decl) (b : Bool) : ∀ (l q pre pre' : List (List Stmt)), (pre ++ l).length ≤ 1000000 → szT l ≤ 1000000 → pre.length = pre'.length → l.length = q.length → Ev (fun n => ref1_Same_L0 n ⟨D, pre ++ l⟩ ⟨D', pre' ++ q⟩ b pre.length) (eqT l q)
  | [], q, pre, pre', h1, hz, h3, h4 => by
    have : q = [] := List.eq_nil_of_length_eq_zero h4.symm
    subst this
    refine Ev.step (Ev.of_eq (g := fun n => some true) (fun n => ?_) (by simpa [eqT] using Ev.ret true))
    simp only [ref1_Same_L0, List.append_nil, ix_ge, cond_false]
  | x :: r, [], pre, pre', h1, hz, h3, h4 => by simp at h4
  | x :: r, y :: q, pre, pre', h1, hz, h3, h4 => by
    rw [szT] at hz
    have hp : pre.length ≤ 1000000 := by simp at h1; omega
    have l2 : idx (pre' ++ y :: q) (pre.length : Int) = some y := by rw [h3]; exact ix_get _ _ _
    have nx := rsameT_L0 D D' b r q (pre ++ [x]) (pre' ++ [y]) (by rw [← ix_cons]; exact h1) (by omega) (by simp [h3]) (by simpa using h4)
    refine Ev.step (Ev.of_eq (g := fun n => (ref1_SameBlock n x y).bind fun r7 => bif !r7 then some false else ref1_Same_L0 n ⟨D, (pre ++ [x]) ++ r⟩ ⟨D', (pre' ++ [y]) ++ q⟩ b ((pre ++ [x]).length)) (fun n => ?_) (Ev.bind (rsame_ev x y (by omega)) ?_))
    · simp only [ref1_Same_L0, ix_lt, ix_get, l2, cond_true, Option.bind_some]
      rw [ix_wr pre x (by omega), ← ix_cons, ← ix_cons]
    · rw [eqT]
      cases c : eqSl x y
      · exact Ev.ret _
      · simpa using nx
theorem rsameP_ev (p q : Prog) (hd : p.Decls.length ≤ 1000000) (hz : szT p.Threads ≤ 1000000) : Ev (fun n => ref1_Same n p q) (eqP p q) := by
  obtain ⟨D, ts⟩ := p
  obtain ⟨D', ts'⟩ := q
  have hT := len_T ts
  simp only at hd hz
  refine Ev.of_eq (g := fun n => (ref1_SameDecls n D D').bind fun r3 => bif !r3 then some false else bif ((ln ts) != (ln ts')) then some false else ref1_Same_L0 n ⟨D, ts⟩ ⟨D', ts'⟩ ((ln ts) != (ln ts')) 0) (fun n => ?_) (Ev.bind (rsameDs_ev D D' hd) ?_)
  · simp only [ref1_Same, jn, cond_true]
  · unfold eqP
    simp only
    cases c : eqDl D D'
    · exact Ev.ret _
    simp only [Bool.not_true, cond_false, Bool.true_and]
    by_cases h4 : ts.length = ts'.length
    · have h5 : (ln ts != ln ts') = false := by rw [bne_len]; simp [h4]
      simp only [h5, cond_false]
      exact rsameT_L0 D D' false ts ts' [] [] (by simp; omega) hz rfl h4
    · have h5 : (ln ts != ln ts') = true := by rw [bne_len]; simp [h4]
      simp only [h5, cond_true]
      rw [eqT_len ts ts' h4]; exact Ev.ret _
end Go.Su.Ytogllinpkijkpaa
