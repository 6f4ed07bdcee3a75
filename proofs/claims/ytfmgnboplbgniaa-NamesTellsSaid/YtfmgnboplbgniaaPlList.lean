/-
  The document's lists of statements.
-/
import Derived.Test.YtfmgnboplbgniaaPlTree
namespace Go.Su.Ytfmgnboplbgniaa
open Go.Mx Go.Proofs
set_option linter.unusedVariables false
set_option linter.unusedSimpArgs false
set_option maxHeartbeats 4000000

theorem roomS (a b : Nat) (h : a + b ≤ 3000000) : room s_Stmt.i1.bytes a b = true := room_of (by
  have : s_Stmt.i1.bytes = 168 := rfl
  rw [this]; omega)

theorem rblock_ev : (∀ s : Stmt, szS s ≤ 1000000 → Ev (fun n => ref1_block n s.Body) (flat s.Body) ∧ Ev (fun n => ref1_block n s.Else) (flat s.Else)) ∧
    ∀ l, ∀ (out : List Stmt) (pre : List Stmt), out.length + szSl l ≤ 1000000 → (pre ++ l).length ≤ 1000000 → Ev (fun n => ref1_block_L0 n (pre ++ l) out pre.length) (out ++ flat l) := by
  refine stmt_ind ?_ ?_ ?_
  · intro k w v m e b l a ihb ihl h
    rw [szS] at h
    have lb := len_Sl b
    have ll := len_Sl l
    exact ⟨Ev.step (Ev.of_eq (fun n => by simp only [ref1_block]; rfl) (by simpa using ihb [] [] (by simp; omega) (by simp; omega))),
      Ev.step (Ev.of_eq (fun n => by simp only [ref1_block]; rfl) (by simpa using ihl [] [] (by simp; omega) (by simp; omega)))⟩
  · intro out pre h1 h2
    refine Ev.step (Ev.of_eq (g := fun n => some out) (fun n => ?_) (by simpa [flat] using Ev.ret out))
    simp only [ref1_block_L0, List.append_nil, ix_ge, cond_false]
  · intro x r ihx ihr out pre h1 h2
    rw [szSl] at h1
    have hp : pre.length ≤ 1000000 := by simp at h2; omega
    have f1 := flat_len.1 x
    rw [fl1_eq] at f1
    simp only [List.length_cons, List.length_append] at f1
    have hx := ihx (by omega)
    refine Ev.step (Ev.of_eq (g := fun n => (ref1_block n x.Body).bind fun r6 => bif room s_Stmt.i1.bytes (out ++ [x]).length r6.length then (ref1_block n x.Else).bind fun r9 => bif room s_Stmt.i1.bytes ((out ++ [x]) ++ r6).length r9.length then ref1_block_L0 n ((pre ++ [x]) ++ r) (((out ++ [x]) ++ r6) ++ r9) ((pre ++ [x]).length) else none else none) (fun n => ?_) (Ev.bind hx.1 ?_))
    · simp only [ref1_block_L0, ix_lt, cond_true, ix_get, Option.bind_some, roomS out.length [x].length (by simp; omega)]
      rw [ix_wr pre x (by omega), ← ix_cons]
    · simp only [roomS (out ++ [x]).length (flat x.Body).length (by simp; omega), cond_true]
      refine Ev.bind hx.2 ?_
      simp only [roomS ((out ++ [x]) ++ flat x.Body).length (flat x.Else).length (by simp; omega), cond_true]
      have := ihr (out ++ [x] ++ flat x.Body ++ flat x.Else) (pre ++ [x]) (by simp only [List.length_append, List.length_singleton]; omega) (by rw [← ix_cons]; exact h2)
      rw [flat, fl1_eq]
      simpa using this
theorem rblk_ev (l : List Stmt) (h : szSl l ≤ 1000000) : Ev (fun n => ref1_block n l) (flat l) := by
  have hl := len_Sl l
  exact Ev.step (Ev.of_eq (fun n => by simp only [ref1_block]; rfl) (by simpa using rblock_ev.2 l [] [] (by simpa using h) (by simp; omega)))

theorem rList_L0 (D : List Decl) (ts : List (List Stmt)) (hz : szT ts ≤ 1000000) : ∀ (l pre : List (List Stmt)) (acc : List Stmt), ts = pre ++ l → acc ++ flats l = flats ts → acc.length + szT l ≤ 1000000 → Ev (fun n => ref1_List_L0 n ⟨D, ts⟩ acc pre.length) (flats ts)
  | [], pre, acc, e, ea, h => by
    rw [flats, List.append_nil] at ea
    subst ea
    rw [List.append_nil] at e
    refine Ev.step (Ev.of_eq (g := fun n => some (flats ts)) (fun n => ?_) (Ev.ret _))
    have l1 : decide ((pre.length : Int) < ln ts) = false := by rw [e]; exact ix_ge _
    simp only [ref1_List_L0, l1, cond_false]
  | t :: r, pre, acc, e, ea, h => by
    have hts := len_T ts
    rw [szT] at h
    have hp : pre.length + 1 ≤ ts.length := by rw [e]; simp
    have hf := flat_len.2 t
    refine Ev.step (Ev.of_eq (g := fun n => (ref1_block n t).bind fun r4 => bif room s_Stmt.i1.bytes acc.length r4.length then ref1_List_L0 n ⟨D, ts⟩ (acc ++ r4) ((pre ++ [t]).length) else none) (fun n => ?_) (Ev.bind (rblk_ev t (by omega)) ?_))
    · have l1 : decide ((pre.length : Int) < ln ts) = true := by rw [e]; exact ix_lt _ _ _
      have l2 : idx ts (pre.length : Int) = some t := by rw [e]; exact ix_get _ _ _
      simp only [ref1_List_L0, l1, l2, cond_true, Option.bind_some]
      rw [ix_wr pre t (by omega)]
    · simp only [roomS acc.length (flat t).length (by omega), cond_true]
      exact rList_L0 D ts hz r (pre ++ [t]) (acc ++ flat t) (by rw [e]; exact ix_cons _ _ _) (by rw [← ea, flats]; simp) (by rw [List.length_append]; omega)
theorem rList_ev (D : List Decl) (ts : List (List Stmt)) (hz : szT ts ≤ 1000000) : Ev (fun n => ref1_List n ⟨D, ts⟩) (flats ts) :=
  Ev.of_eq (fun n => by simp only [ref1_List]; rfl) (rList_L0 D ts hz ts [] [] rfl rfl (by simpa using hz))
end Go.Su.Ytfmgnboplbgniaa
