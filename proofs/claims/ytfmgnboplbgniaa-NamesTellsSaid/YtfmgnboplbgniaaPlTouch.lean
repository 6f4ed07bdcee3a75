/-
  Names of expressions, what statements touch.
-/
import Derived.Test.YtfmgnboplbgniaaPlTree
namespace Go.Su.Ytfmgnboplbgniaa
open Go.Mx Go.Proofs
set_option linter.unusedVariables false
set_option linter.unusedSimpArgs false
set_option maxHeartbeats 4000000

mutual
def nmE : Expr → List ByteArray
  | ⟨k, _, w, l⟩ => (if k = 2 then [w] else []) ++ nmEl l
def nmEl : List Expr → List ByteArray
  | [] => []
  | e :: r => nmE e ++ nmEl r
end
theorem nm_len : (∀ e, (nmE e).length ≤ szE e) ∧ ∀ l, (nmEl l).length ≤ szEl l := by
  refine expr_ind ?_ (by simp [nmEl]) ?_
  · intro k n w l h
    rw [nmE, szE]; split <;> simp <;> omega
  · intro e r h1 h2
    rw [nmEl, szEl, List.length_append]; omega
def tch (s : Stmt) : List ByteArray := (if s.Kind = 1 ∨ s.Kind = 4 ∨ s.Kind = 6 ∨ s.Kind = 7 then nmE s.E else []) ++ (if s.Kind = 1 then [s.Name] else if s.Kind = 5 then [s.Other] else [])

theorem roomW (a b : Nat) (h : a + b ≤ 3000000) : room s_string.i1.bytes a b = true := room_of (by
  have : s_string.i1.bytes = 16 := rfl
  rw [this]; omega)

theorem tnames_ev : (∀ e, szE e ≤ 1000000 → Ev (fun n => tree_Names n e) (nmE e)) ∧
    ∀ l, ∀ (k m : Int) (w : ByteArray) (l1 : List ByteArray) (pre : List Expr) (acc : List ByteArray), (pre ++ l).length ≤ 1000000 → acc.length + szEl l ≤ 1000000 → Ev (fun n => tree_Names_L0 n ⟨k, m, w, pre ++ l⟩ l1 acc pre.length) (acc ++ nmEl l) := by
  refine expr_ind ?_ ?_ ?_
  · intro k m w l ih h
    rw [szE] at h
    have hl := len_El l
    by_cases h2 : k = 2
    · have b : (k == 2) = true := by simpa using h2
      refine Ev.step (Ev.of_eq (g := fun n => tree_Names_L0 n ⟨k, m, w, [] ++ l⟩ ([] ++ [w]) ([] ++ [w]) 0) (fun n => ?_) ?_)
      · simp only [tree_Names, jn, b, cond_true, roomW ([] : List ByteArray).length [w].length (by simp)]; rfl
      · have := ih k m w ([] ++ [w]) [] ([] ++ [w]) (by simp; omega) (by simp; omega)
        rw [nmE, if_pos h2]; exact this
    · have b : (k == 2) = false := by simpa using h2
      refine Ev.step (Ev.of_eq (g := fun n => tree_Names_L0 n ⟨k, m, w, [] ++ l⟩ [] [] 0) (fun n => ?_) ?_)
      · simp only [tree_Names, jn, b, cond_false]; rfl
      · have := ih k m w [] [] [] (by simp; omega) (by simp; omega)
        rw [nmE, if_neg h2]; exact this
  · intro k m w l1 pre acc hl h1
    refine Ev.step (Ev.of_eq (g := fun n => some acc) (fun n => ?_) (by simpa [nmEl] using Ev.ret acc))
    simp only [tree_Names_L0, List.append_nil, ix_ge, cond_false, Clip_string, sub_all, Option.bind_some]
  · intro e r ihe ihr k m w l1 pre acc hl h1
    rw [szEl] at h1
    have hn := nm_len.1 e
    have hp : pre.length ≤ 1000000 := by simp at hl; omega
    refine Ev.step (Ev.of_eq (g := fun n => (tree_Names n e).bind fun r7 => bif room s_string.i1.bytes acc.length r7.length then tree_Names_L0 n ⟨k, m, w, (pre ++ [e]) ++ r⟩ l1 (acc ++ r7) ((pre ++ [e]).length) else none) (fun n => ?_) (Ev.bind (ihe (by omega)) ?_))
    · simp only [tree_Names_L0, ix_lt, cond_true, ix_get, Option.bind_some]
      rw [ix_wr pre e (by omega), ← ix_cons]
    · simp only [roomW acc.length (nmE e).length (by omega), cond_true]
      have := ihr k m w l1 (pre ++ [e]) (acc ++ nmE e) (by rw [← ix_cons]; exact hl) (by rw [List.length_append]; omega)
      rw [nmEl]; simpa using this
theorem rnames_ev : (∀ e, szE e ≤ 1000000 → Ev (fun n => ref1_Names n e) (nmE e)) ∧
    ∀ l, ∀ (k m : Int) (w : ByteArray) (l1 : List ByteArray) (pre : List Expr) (acc : List ByteArray), (pre ++ l).length ≤ 1000000 → acc.length + szEl l ≤ 1000000 → Ev (fun n => ref1_Names_L0 n ⟨k, m, w, pre ++ l⟩ l1 acc pre.length) (acc ++ nmEl l) := by
  refine expr_ind ?_ ?_ ?_
  · intro k m w l ih h
    rw [szE] at h
    have hl := len_El l
    by_cases h2 : k = 2
    · have b : (k == 2) = true := by simpa using h2
      refine Ev.step (Ev.of_eq (g := fun n => ref1_Names_L0 n ⟨k, m, w, [] ++ l⟩ ([] ++ [w]) ([] ++ [w]) 0) (fun n => ?_) ?_)
      · simp only [ref1_Names, jn, b, cond_true, roomW ([] : List ByteArray).length [w].length (by simp)]; rfl
      · have := ih k m w ([] ++ [w]) [] ([] ++ [w]) (by simp; omega) (by simp; omega)
        rw [nmE, if_pos h2]; exact this
    · have b : (k == 2) = false := by simpa using h2
      refine Ev.step (Ev.of_eq (g := fun n => ref1_Names_L0 n ⟨k, m, w, [] ++ l⟩ [] [] 0) (fun n => ?_) ?_)
      · simp only [ref1_Names, jn, b, cond_false]; rfl
      · have := ih k m w [] [] [] (by simp; omega) (by simp; omega)
        rw [nmE, if_neg h2]; exact this
  · intro k m w l1 pre acc hl h1
    refine Ev.step (Ev.of_eq (g := fun n => some acc) (fun n => ?_) (by simpa [nmEl] using Ev.ret acc))
    simp only [ref1_Names_L0, List.append_nil, ix_ge, cond_false]
  · intro e r ihe ihr k m w l1 pre acc hl h1
    rw [szEl] at h1
    have hn := nm_len.1 e
    have hp : pre.length ≤ 1000000 := by simp at hl; omega
    refine Ev.step (Ev.of_eq (g := fun n => (ref1_Names n e).bind fun r7 => bif room s_string.i1.bytes acc.length r7.length then ref1_Names_L0 n ⟨k, m, w, (pre ++ [e]) ++ r⟩ l1 (acc ++ r7) ((pre ++ [e]).length) else none) (fun n => ?_) (Ev.bind (ihe (by omega)) ?_))
    · simp only [ref1_Names_L0, ix_lt, cond_true, ix_get, Option.bind_some]
      rw [ix_wr pre e (by omega), ← ix_cons]
    · simp only [roomW acc.length (nmE e).length (by omega), cond_true]
      have := ihr k m w l1 (pre ++ [e]) (acc ++ nmE e) (by rw [← ix_cons]; exact hl) (by rw [List.length_append]; omega)
      rw [nmEl]; simpa using this

theorem ttouch_ev (s : Stmt) (h : szE s.E ≤ 1000000) : Ev (fun n => tree_Touches n s) (tch s) := by
  have hn := nm_len.1 s.E
  have r1 : ∀ w : ByteArray, room s_string.i1.bytes (nmE s.E).length [w].length = true := fun w => roomW _ _ (by simp; omega)
  have r2 : ∀ w : ByteArray, room s_string.i1.bytes ([] : List ByteArray).length [w].length = true := fun w => roomW _ _ (by simp)
  by_cases k1 : s.Kind = 1
  · have e : tch s = nmE s.E ++ [s.Name] := by simp [tch, k1]
    rw [e]
    refine Ev.of_eq (g := fun n => (tree_Names n s.E).bind fun r5 => bif room s_string.i1.bytes r5.length [s.Name].length then some (r5 ++ [s.Name]) else none) (fun n => ?_) (Ev.bind (tnames_ev.1 s.E h) ?_)
    · simp only [tree_Touches, jn, k1, Clip_string, sub_all, Option.bind_some]; rfl
    · simp only [r1, cond_true]; exact Ev.ret _
  have b1 : (s.Kind == 1) = false := by simpa using k1
  by_cases k2 : s.Kind = 4 ∨ s.Kind = 6 ∨ s.Kind = 7
  · have e : tch s = nmE s.E := by
      have : s.Kind ≠ 5 := by omega
      simp [tch, k1, k2, this]
    rw [e]
    have b5 : (s.Kind == 5) = false := by simp; omega
    refine Ev.of_eq (g := fun n => (tree_Names n s.E).bind fun r5 => some r5) (fun n => ?_) (Ev.bind (tnames_ev.1 s.E h) (Ev.ret _))
    simp only [tree_Touches, jn, b1, b5, cond_false, Clip_string, sub_all, Option.bind_some]
    rcases k2 with k | k | k <;> rw [k] <;> rfl
  · have b4 : (s.Kind == 4) = false := by simp; omega
    have b6 : (s.Kind == 6) = false := by simp; omega
    have b7 : (s.Kind == 7) = false := by simp; omega
    by_cases k5 : s.Kind = 5
    · have e : tch s = [] ++ [s.Other] := by simp [tch, k5]
      rw [e]
      refine Ev.of_eq (g := fun n => some ([] ++ [s.Other])) (fun n => ?_) (Ev.ret _)
      have b5 : (s.Kind == 5) = true := by simpa using k5
      simp only [tree_Touches, jn, b1, b4, b5, b6, b7, cond_false, cond_true, Clip_string, sub_all, Option.bind_some, r2]
    · have e : tch s = [] := by
        have : ¬ (s.Kind = 1 ∨ s.Kind = 4 ∨ s.Kind = 6 ∨ s.Kind = 7) := by omega
        unfold tch; rw [if_neg this, if_neg k1, if_neg k5]; rfl
      rw [e]
      have b5 : (s.Kind == 5) = false := by simpa using k5
      refine Ev.of_eq (g := fun n => some []) (fun n => ?_) (Ev.ret _)
      simp only [tree_Touches, jn, b1, b4, b5, b6, b7, cond_false, Clip_string, sub_all, Option.bind_some]
theorem rtouch_ev (s : Stmt) (h : szE s.E ≤ 1000000) : Ev (fun n => ref1_Touches n s) (tch s) := by
  have hn := nm_len.1 s.E
  have r1 : ∀ w : ByteArray, room s_string.i1.bytes (nmE s.E).length [w].length = true := fun w => roomW _ _ (by simp; omega)
  have r2 : ∀ w : ByteArray, room s_string.i1.bytes ([] : List ByteArray).length [w].length = true := fun w => roomW _ _ (by simp)
  by_cases k1 : s.Kind = 1
  · have e : tch s = nmE s.E ++ [s.Name] := by simp [tch, k1]
    rw [e]
    refine Ev.of_eq (g := fun n => (ref1_Names n s.E).bind fun r5 => bif room s_string.i1.bytes r5.length [s.Name].length then some (r5 ++ [s.Name]) else none) (fun n => ?_) (Ev.bind (rnames_ev.1 s.E h) ?_)
    · simp only [ref1_Touches, jn, k1]; rfl
    · simp only [r1, cond_true]; exact Ev.ret _
  have b1 : (s.Kind == 1) = false := by simpa using k1
  by_cases k2 : s.Kind = 4 ∨ s.Kind = 6 ∨ s.Kind = 7
  · have e : tch s = nmE s.E := by
      have : s.Kind ≠ 5 := by omega
      simp [tch, k1, k2, this]
    rw [e]
    have b5 : (s.Kind == 5) = false := by simp; omega
    refine Ev.of_eq (g := fun n => (ref1_Names n s.E).bind fun r5 => some r5) (fun n => ?_) (Ev.bind (rnames_ev.1 s.E h) (Ev.ret _))
    simp only [ref1_Touches, jn, b1, b5, cond_false]
    rcases k2 with k | k | k <;> rw [k] <;> rfl
  · have b4 : (s.Kind == 4) = false := by simp; omega
    have b6 : (s.Kind == 6) = false := by simp; omega
    have b7 : (s.Kind == 7) = false := by simp; omega
    by_cases k5 : s.Kind = 5
    · have e : tch s = [] ++ [s.Other] := by simp [tch, k5]
      rw [e]
      refine Ev.of_eq (g := fun n => some ([] ++ [s.Other])) (fun n => ?_) (Ev.ret _)
      have b5 : (s.Kind == 5) = true := by simpa using k5
      simp only [ref1_Touches, jn, b1, b4, b5, b6, b7, cond_false, cond_true, r2]
    · have e : tch s = [] := by
        have : ¬ (s.Kind = 1 ∨ s.Kind = 4 ∨ s.Kind = 6 ∨ s.Kind = 7) := by omega
        unfold tch; rw [if_neg this, if_neg k1, if_neg k5]; rfl
      rw [e]
      have b5 : (s.Kind == 5) = false := by simpa using k5
      refine Ev.of_eq (g := fun n => some []) (fun n => ?_) (Ev.ret _)
      simp only [ref1_Touches, jn, b1, b4, b5, b6, b7, cond_false]
end Go.Su.Ytfmgnboplbgniaa
