/-
  The names that a number tells; chapter 22's example.
-/
import Derived.Test.YtfmgnboplbgniaaZPlCost
import Derived.KernelRfl
namespace Go.Su.Ytfmgnboplbgniaa
open Go.Mx Go.Proofs
set_option linter.unusedVariables false
set_option linter.unusedSimpArgs false
set_option maxHeartbeats 4000000
mutual
def nmE : Expr → List ByteArray
 | ⟨k, _, w, l⟩ => (if k = 2 then [w] else []) ++ nmEl l
def nmEl : List Expr → List ByteArray
 | [] => []
 | e :: r => nmE e ++ nmEl r
end
theorem nm_len : (∀ e, (nmE e).length ≤ szE e) ∧ ∀ l, (nmEl l).length ≤ szEl l := by
 refine expr_ind ?_ (by simp [nmEl]) ?_
 ·intro k n w l h
  rw [nmE, szE]; split <;> simp <;> omega
 ·intro e r h1 h2
  rw [nmEl, szEl, List.length_append]; omega
def tch (s : Stmt) : List ByteArray := (if s.Kind = 1 ∨ s.Kind = 4 ∨ s.Kind = 6 ∨ s.Kind = 7 then nmE s.E else []) ++ (if s.Kind = 1 then [s.Name] else if s.Kind = 5 then [s.Other] else [])
theorem roomW (a b : Nat) (h : a + b ≤ 3000000) : room s_string.i1.bytes a b = true := room_of (by
 have : s_string.i1.bytes = 16 := rfl
 rw [this]; omega)
theorem tnames_ev : (∀ e, szE e ≤ 1000000 → Ev (fun n => tree_Names n e) (nmE e)) ∧
  ∀ l, ∀ (k m : Int) (w : ByteArray) (l1 : List ByteArray) (pre : List Expr) (acc : List ByteArray), (pre ++ l).length ≤ 1000000 → acc.length + szEl l ≤ 1000000 → Ev (fun n => tree_Names_L0 n ⟨k, m, w, pre ++ l⟩ l1 acc pre.length) (acc ++ nmEl l) := by
 refine expr_ind ?_ ?_ ?_
 ·intro k m w l ih h
  rw [szE] at h
  have hl := len_El l
  by_cases h2 : k = 2
  ·have b : (k == 2) = true := by simpa using h2
   refine Ev.step (Ev.of_eq (g := fun n => tree_Names_L0 n ⟨k, m, w, [] ++ l⟩ ([] ++ [w]) ([] ++ [w]) 0) (fun n => ?_) ?_)
   ·simp only [tree_Names, jn, b, cond_true, roomW ([] : List ByteArray).length [w].length (by simp)]; rfl
   ·have := ih k m w ([] ++ [w]) [] ([] ++ [w]) (by simp; omega) (by simp; omega)
    rw [nmE, if_pos h2]; exact this
  ·have b : (k == 2) = false := by simpa using h2
   refine Ev.step (Ev.of_eq (g := fun n => tree_Names_L0 n ⟨k, m, w, [] ++ l⟩ [] [] 0) (fun n => ?_) ?_)
   ·simp only [tree_Names, jn, b, cond_false]; rfl
   ·have := ih k m w [] [] [] (by simp; omega) (by simp; omega)
    rw [nmE, if_neg h2]; exact this
 ·intro k m w l1 pre acc hl h1
  refine Ev.step (Ev.of_eq (g := fun n => some acc) (fun n => ?_) (by simpa [nmEl] using Ev.ret acc))
  simp only [tree_Names_L0, List.append_nil, ix_ge, cond_false, Clip_string, sub_all, Option.bind_some]
 ·intro e r ihe ihr k m w l1 pre acc hl h1
  rw [szEl] at h1
  have hn := nm_len.1 e
  have hp : pre.length ≤ 1000000 := by simp at hl; omega
  refine Ev.step (Ev.of_eq (g := fun n => (tree_Names n e).bind fun r7 => bif room s_string.i1.bytes acc.length r7.length then tree_Names_L0 n ⟨k, m, w, (pre ++ [e]) ++ r⟩ l1 (acc ++ r7) ((pre ++ [e]).length) else none) (fun n => ?_) (Ev.bind (ihe (by omega)) ?_))
  ·simp only [tree_Names_L0, ix_lt, cond_true, ix_get, Option.bind_some]
   rw [ix_wr pre e (by omega), ← ix_cons]
  ·simp only [roomW acc.length (nmE e).length (by omega), cond_true]
   have := ihr k m w l1 (pre ++ [e]) (acc ++ nmE e) (by rw [← ix_cons]; exact hl) (by rw [List.length_append]; omega)
   rw [nmEl]; simpa using this
theorem rnames_ev : (∀ e, szE e ≤ 1000000 → Ev (fun n => ref1_Names n e) (nmE e)) ∧
  ∀ l, ∀ (k m : Int) (w : ByteArray) (l1 : List ByteArray) (pre : List Expr) (acc : List ByteArray), (pre ++ l).length ≤ 1000000 → acc.length + szEl l ≤ 1000000 → Ev (fun n => ref1_Names_L0 n ⟨k, m, w, pre ++ l⟩ l1 acc pre.length) (acc ++ nmEl l) := by
 refine expr_ind ?_ ?_ ?_
 ·intro k m w l ih h
  rw [szE] at h
  have hl := len_El l
  by_cases h2 : k = 2
  ·have b : (k == 2) = true := by simpa using h2
   refine Ev.step (Ev.of_eq (g := fun n => ref1_Names_L0 n ⟨k, m, w, [] ++ l⟩ ([] ++ [w]) ([] ++ [w]) 0) (fun n => ?_) ?_)
   ·simp only [ref1_Names, jn, b, cond_true, roomW ([] : List ByteArray).length [w].length (by simp)]; rfl
   ·have := ih k m w ([] ++ [w]) [] ([] ++ [w]) (by simp; omega) (by simp; omega)
    rw [nmE, if_pos h2]; exact this
  ·have b : (k == 2) = false := by simpa using h2
   refine Ev.step (Ev.of_eq (g := fun n => ref1_Names_L0 n ⟨k, m, w, [] ++ l⟩ [] [] 0) (fun n => ?_) ?_)
   ·simp only [ref1_Names, jn, b, cond_false]; rfl
   ·have := ih k m w [] [] [] (by simp; omega) (by simp; omega)
    rw [nmE, if_neg h2]; exact this
 ·intro k m w l1 pre acc hl h1
  refine Ev.step (Ev.of_eq (g := fun n => some acc) (fun n => ?_) (by simpa [nmEl] using Ev.ret acc))
  simp only [ref1_Names_L0, List.append_nil, ix_ge, cond_false]
 ·intro e r ihe ihr k m w l1 pre acc hl h1
  rw [szEl] at h1
  have hn := nm_len.1 e
  have hp : pre.length ≤ 1000000 := by simp at hl; omega
  refine Ev.step (Ev.of_eq (g := fun n => (ref1_Names n e).bind fun r7 => bif room s_string.i1.bytes acc.length r7.length then ref1_Names_L0 n ⟨k, m, w, (pre ++ [e]) ++ r⟩ l1 (acc ++ r7) ((pre ++ [e]).length) else none) (fun n => ?_) (Ev.bind (ihe (by omega)) ?_))
  ·simp only [ref1_Names_L0, ix_lt, cond_true, ix_get, Option.bind_some]
   rw [ix_wr pre e (by omega), ← ix_cons]
  ·simp only [roomW acc.length (nmE e).length (by omega), cond_true]
   have := ihr k m w l1 (pre ++ [e]) (acc ++ nmE e) (by rw [← ix_cons]; exact hl) (by rw [List.length_append]; omega)
   rw [nmEl]; simpa using this
theorem ttouch_ev (s : Stmt) (h : szE s.E ≤ 1000000) : Ev (fun n => tree_Touches n s) (tch s) := by
 have hn := nm_len.1 s.E
 have r1 : ∀ w : ByteArray, room s_string.i1.bytes (nmE s.E).length [w].length = true := fun w => roomW _ _ (by simp; omega)
 have r2 : ∀ w : ByteArray, room s_string.i1.bytes ([] : List ByteArray).length [w].length = true := fun w => roomW _ _ (by simp)
 by_cases k1 : s.Kind = 1
 ·have e : tch s = nmE s.E ++ [s.Name] := by simp [tch, k1]
  rw [e]
  refine Ev.of_eq (g := fun n => (tree_Names n s.E).bind fun r5 => bif room s_string.i1.bytes r5.length [s.Name].length then some (r5 ++ [s.Name]) else none) (fun n => ?_) (Ev.bind (tnames_ev.1 s.E h) ?_)
  ·simp only [tree_Touches, jn, k1, Clip_string, sub_all, Option.bind_some]; rfl
  ·simp only [r1, cond_true]; exact Ev.ret _
 have b1 : (s.Kind == 1) = false := by simpa using k1
 by_cases k2 : s.Kind = 4 ∨ s.Kind = 6 ∨ s.Kind = 7
 ·have e : tch s = nmE s.E := by
   have : s.Kind ≠ 5 := by omega
   simp [tch, k1, k2, this]
  rw [e]
  have b5 : (s.Kind == 5) = false := by simp; omega
  refine Ev.of_eq (g := fun n => (tree_Names n s.E).bind fun r5 => some r5) (fun n => ?_) (Ev.bind (tnames_ev.1 s.E h) (Ev.ret _))
  simp only [tree_Touches, jn, b1, b5, cond_false, Clip_string, sub_all, Option.bind_some]
  rcases k2 with k | k | k <;> rw [k] <;> rfl
 ·have b4 : (s.Kind == 4) = false := by simp; omega
  have b6 : (s.Kind == 6) = false := by simp; omega
  have b7 : (s.Kind == 7) = false := by simp; omega
  by_cases k5 : s.Kind = 5
  ·have e : tch s = [] ++ [s.Other] := by simp [tch, k5]
   rw [e]
   refine Ev.of_eq (g := fun n => some ([] ++ [s.Other])) (fun n => ?_) (Ev.ret _)
   have b5 : (s.Kind == 5) = true := by simpa using k5
   simp only [tree_Touches, jn, b1, b4, b5, b6, b7, cond_false, cond_true, Clip_string, sub_all, Option.bind_some, r2]
  ·have e : tch s = [] := by
    have : ¬ (s.Kind = 1 ∨ s.Kind = 4 ∨ s.Kind = 6 ∨ s.Kind = 7) := by omega
    unfold tch; rw [if_neg this, if_neg k1, if_neg k5]; rfl
   rw [e]
   have b5 : (s.Kind == 5) = false := by simpa using k5
   refine Ev.of_eq (g := fun n => some []) (fun n => ?_) (Ev.ret _)
   simp only [tree_Touches, jn, b1, b4, b5, b6, b7, cond_false, Clip_string, sub_all, Option.bind_some]
theorem rtouch_ev (s : Stmt) (h : szE s.E ≤ 1000000) : Ev (fun n => ref1_Touches n s) (tch s) := by
 have hn := nm_len.1 s.E
 have r1 : ∀ w : ByteArray, room s_string.i1.bytes (nmE s.E).length [w].length = true := fun w => roomW _ _ (by simp; omega)
 have r2 : ∀ w : ByteArray, room s_string.i1.bytes ([] : List ByteArray).length [w].length = true := fun w => roomW _ _ (by simp)
 by_cases k1 : s.Kind = 1
 ·have e : tch s = nmE s.E ++ [s.Name] := by simp [tch, k1]
  rw [e]
  refine Ev.of_eq (g := fun n => (ref1_Names n s.E).bind fun r5 => bif room s_string.i1.bytes r5.length [s.Name].length then some (r5 ++ [s.Name]) else none) (fun n => ?_) (Ev.bind (rnames_ev.1 s.E h) ?_)
  ·simp only [ref1_Touches, jn, k1]; rfl
  ·simp only [r1, cond_true]; exact Ev.ret _
 have b1 : (s.Kind == 1) = false := by simpa using k1
 by_cases k2 : s.Kind = 4 ∨ s.Kind = 6 ∨ s.Kind = 7
 ·have e : tch s = nmE s.E := by
   have : s.Kind ≠ 5 := by omega
   simp [tch, k1, k2, this]
  rw [e]
  have b5 : (s.Kind == 5) = false := by simp; omega
  refine Ev.of_eq (g := fun n => (ref1_Names n s.E).bind fun r5 => some r5) (fun n => ?_) (Ev.bind (rnames_ev.1 s.E h) (Ev.ret _))
  simp only [ref1_Touches, jn, b1, b5, cond_false]
  rcases k2 with k | k | k <;> rw [k] <;> rfl
 ·have b4 : (s.Kind == 4) = false := by simp; omega
  have b6 : (s.Kind == 6) = false := by simp; omega
  have b7 : (s.Kind == 7) = false := by simp; omega
  by_cases k5 : s.Kind = 5
  ·have e : tch s = [] ++ [s.Other] := by simp [tch, k5]
   rw [e]
   refine Ev.of_eq (g := fun n => some ([] ++ [s.Other])) (fun n => ?_) (Ev.ret _)
   have b5 : (s.Kind == 5) = true := by simpa using k5
   simp only [ref1_Touches, jn, b1, b4, b5, b6, b7, cond_false, cond_true, r2]
  ·have e : tch s = [] := by
    have : ¬ (s.Kind = 1 ∨ s.Kind = 4 ∨ s.Kind = 6 ∨ s.Kind = 7) := by omega
    unfold tch; rw [if_neg this, if_neg k1, if_neg k5]; rfl
   rw [e]
   have b5 : (s.Kind == 5) = false := by simpa using k5
   refine Ev.of_eq (g := fun n => some []) (fun n => ?_) (Ev.ret _)
   simp only [ref1_Touches, jn, b1, b4, b5, b6, b7, cond_false]
end Go.Su.Ytfmgnboplbgniaa
namespace Go.Su.Ytfmgnboplbgniaa
open Go.Mx Go.Proofs
set_option linter.unusedVariables false
set_option linter.unusedSimpArgs false
set_option maxHeartbeats 4000000
theorem roomS (a b : Nat) (h : a + b ≤ 3000000) : room s_Stmt.i1.bytes a b = true := room_of (by
 have : s_Stmt.i1.bytes = 168 := rfl
 rw [this]; omega)
theorem rblock_ev : (∀ s : Stmt, szS s ≤ 1000000 → Ev (fun n => ref1_block n s.Body) (flat s.Body) ∧ Ev (fun n => ref1_block n s.Else) (flat s.Else)) ∧
  ∀ l, ∀ (out : List Stmt) (pre : List Stmt), out.length + szSl l ≤ 1000000 → (pre ++ l).length ≤ 1000000 → Ev (fun n => ref1_block_L0 n (pre ++ l) out pre.length) (out ++ flat l) := by
 refine stmt_ind ?_ ?_ ?_
 ·intro k w v m e b l a ihb ihl h
  rw [szS] at h
  have lb := len_Sl b
  have ll := len_Sl l
  exact ⟨Ev.step (Ev.of_eq (fun n => by simp only [ref1_block]; rfl) (by simpa using ihb [] [] (by simp; omega) (by simp; omega))),
   Ev.step (Ev.of_eq (fun n => by simp only [ref1_block]; rfl) (by simpa using ihl [] [] (by simp; omega) (by simp; omega)))⟩
 ·intro out pre h1 h2
  refine Ev.step (Ev.of_eq (g := fun n => some out) (fun n => ?_) (by simpa [flat] using Ev.ret out))
  simp only [ref1_block_L0, List.append_nil, ix_ge, cond_false]
 ·intro x r ihx ihr out pre h1 h2
  rw [szSl] at h1
  have hp : pre.length ≤ 1000000 := by simp at h2; omega
  have f1 := flat_len.1 x
  rw [fl1_eq] at f1
  simp only [List.length_cons, List.length_append] at f1
  have hx := ihx (by omega)
  refine Ev.step (Ev.of_eq (g := fun n => (ref1_block n x.Body).bind fun r6 => bif room s_Stmt.i1.bytes (out ++ [x]).length r6.length then (ref1_block n x.Else).bind fun r9 => bif room s_Stmt.i1.bytes ((out ++ [x]) ++ r6).length r9.length then ref1_block_L0 n ((pre ++ [x]) ++ r) (((out ++ [x]) ++ r6) ++ r9) ((pre ++ [x]).length) else none else none) (fun n => ?_) (Ev.bind hx.1 ?_))
  ·simp only [ref1_block_L0, ix_lt, cond_true, ix_get, Option.bind_some, roomS out.length [x].length (by simp; omega)]
   rw [ix_wr pre x (by omega), ← ix_cons]
  ·simp only [roomS (out ++ [x]).length (flat x.Body).length (by simp; omega), cond_true]
   refine Ev.bind hx.2 ?_
   simp only [roomS ((out ++ [x]) ++ flat x.Body).length (flat x.Else).length (by simp; omega), cond_true]
   have := ihr (out ++ [x] ++ flat x.Body ++ flat x.Else) (pre ++ [x]) (by simp only [List.length_append, List.length_singleton]; omega) (by rw [← ix_cons]; exact h2)
   rw [flat, fl1_eq]
   simpa using this
theorem rblk_ev (l : List Stmt) (h : szSl l ≤ 1000000) : Ev (fun n => ref1_block n l) (flat l) := by
 have hl := len_Sl l
 exact Ev.step (Ev.of_eq (fun n => by simp only [ref1_block]; rfl) (by simpa using rblock_ev.2 l [] [] (by simpa using h) (by simp; omega)))
theorem rList_L0 (D : List Decl) (ts : List (List Stmt)) (hz : szT ts ≤ 1000000) : ∀ (l pre : List (List Stmt)) (acc : List Stmt), ts = pre ++ l → acc ++ flats l = flats ts → acc.length + szT l ≤ 1000000 → Ev (fun n => ref1_List_L0 n ⟨D, ts⟩ acc pre.length) (flats ts)
 | [], pre, acc, e, ea, h => by
  rw [flats, List.append_nil] at ea
  subst ea
  rw [List.append_nil] at e
  refine Ev.step (Ev.of_eq (g := fun n => some (flats ts)) (fun n => ?_) (Ev.ret _))
  have l1 : decide ((pre.length : Int) < ln ts) = false := by rw [e]; exact ix_ge _
  simp only [ref1_List_L0, l1, cond_false]
 | t :: r, pre, acc, e, ea, h => by
  have hts := len_T ts
  rw [szT] at h
  have hp : pre.length + 1 ≤ ts.length := by rw [e]; simp
  have hf := flat_len.2 t
  refine Ev.step (Ev.of_eq (g := fun n => (ref1_block n t).bind fun r4 => bif room s_Stmt.i1.bytes acc.length r4.length then ref1_List_L0 n ⟨D, ts⟩ (acc ++ r4) ((pre ++ [t]).length) else none) (fun n => ?_) (Ev.bind (rblk_ev t (by omega)) ?_))
  ·have l1 : decide ((pre.length : Int) < ln ts) = true := by rw [e]; exact ix_lt _ _ _
   have l2 : idx ts (pre.length : Int) = some t := by rw [e]; exact ix_get _ _ _
   simp only [ref1_List_L0, l1, l2, cond_true, Option.bind_some]
   rw [ix_wr pre t (by omega)]
  ·simp only [roomS acc.length (flat t).length (by omega), cond_true]
   exact rList_L0 D ts hz r (pre ++ [t]) (acc ++ flat t) (by rw [e]; exact ix_cons _ _ _) (by rw [← ea, flats]; simp) (by rw [List.length_append]; omega)
theorem rList_ev (D : List Decl) (ts : List (List Stmt)) (hz : szT ts ≤ 1000000) : Ev (fun n => ref1_List n ⟨D, ts⟩) (flats ts) :=
 Ev.of_eq (fun n => by simp only [ref1_List]; rfl) (rList_L0 D ts hz ts [] [] rfl rfl (by simpa using hz))
end Go.Su.Ytfmgnboplbgniaa
namespace Go.Su.Ytfmgnboplbgniaa
open Go.Mx Go.Proofs
set_option linter.unusedVariables false
set_option linter.unusedSimpArgs false
set_option maxHeartbeats 4000000
theorem bytesEq_comm (a b : ByteArray) : bytesEq a b = bytesEq b a := by
 rw [bytesEq_eq, bytesEq_eq]; exact BEq.comm
def has (l : List ByteArray) (w : ByteArray) : Bool := l.any fun x => bytesEq x w
def hit (s : Stmt) (l : List ByteArray) : Bool := (tch s).any (has l)
theorem Index_L0 (w : ByteArray) : ∀ (l pre : List ByteArray), (pre ++ l).length ≤ 4000000 → ∃ r, Ev (fun n => Index_string_L0 n (pre ++ l) w pre.length) r ∧ decide (r ≥ 0) = has l w
 | [], pre, h => ⟨-1, Ev.step (Ev.of_eq (g := fun n => some (-1)) (fun n => by simp only [Index_string_L0, List.append_nil, ix_ge, cond_false]) (Ev.ret _)), rfl⟩
 | x :: r, pre, h => by
  have hp : pre.length + 1 ≤ 4000000 := by simp at h; omega
  cases hb : bytesEq w x
  ·obtain ⟨q, h1, h2⟩ := Index_L0 w r (pre ++ [x]) (by rw [← ix_cons]; exact h)
   refine ⟨q, Ev.step (Ev.of_eq (fun n => ?_) h1), by rw [h2]; simp [has, bytesEq_comm x w, hb]⟩
   simp only [Index_string_L0, ix_lt, ix_get, cond_true, Option.bind_some, hb, cond_false]
   rw [ix_wr pre x (by omega), ← ix_cons]
  ·refine ⟨(pre.length : Int), Ev.step (Ev.of_eq (g := fun n => some (pre.length : Int)) (fun n => ?_) (Ev.ret _)), by simp [has, bytesEq_comm x w, hb]⟩
   simp only [Index_string_L0, ix_lt, ix_get, cond_true, Option.bind_some, hb]
theorem contains_ev (l : List ByteArray) (w : ByteArray) (h : l.length ≤ 4000000) : Ev (fun n => cost_touches_1 n w l) (has l w) := by
 obtain ⟨r, h1, h2⟩ := Index_L0 w l [] (by simpa using h)
 have e : Ev (fun n => Index_string n l w) r := Ev.of_eq (fun n => by simp only [Index_string]; rfl) h1
 exact Ev.of_eq (g := fun n => ((Index_string n l w).bind fun r1 => some (decide (r1 ≥ 0))).bind fun r1 => some r1) (fun n => by simp only [cost_touches_1, Contains_string]) (Ev.bind (Ev.bind e (Ev.ret _)) (by rw [h2]; exact Ev.ret _))
theorem IndexF_L0 (a1 : List ByteArray) (ha : a1.length ≤ 4000000) : ∀ (l pre : List ByteArray), (pre ++ l).length ≤ 4000000 → ∃ r, Ev (fun n => IndexFunc_string_fcost_touches_1_L0 n (pre ++ l) a1 pre.length) r ∧ decide (r ≥ 0) = l.any (has a1)
 | [], pre, h => ⟨-1, Ev.step (Ev.of_eq (g := fun n => some (-1)) (fun n => by simp only [IndexFunc_string_fcost_touches_1_L0, List.append_nil, ix_ge, cond_false]) (Ev.ret _)), rfl⟩
 | x :: r, pre, h => by
  have hp : pre.length + 1 ≤ 4000000 := by simp at h; omega
  have hc := contains_ev a1 x ha
  have base : ∀ n, IndexFunc_string_fcost_touches_1_L0 (n + 1) (pre ++ x :: r) a1 pre.length = (cost_touches_1 n x a1).bind fun r3 => bif r3 then some (pre.length : Int) else IndexFunc_string_fcost_touches_1_L0 n ((pre ++ [x]) ++ r) a1 ((pre ++ [x]).length) := by
   intro n
   simp only [IndexFunc_string_fcost_touches_1_L0, ix_lt, ix_get, cond_true, Option.bind_some]
   rw [ix_wr pre x (by omega), ← ix_cons]
  cases hb : has a1 x
  ·obtain ⟨q, h1, h2⟩ := IndexF_L0 a1 ha r (pre ++ [x]) (by rw [← ix_cons]; exact h)
   exact ⟨q, Ev.step (Ev.of_eq base (Ev.bind hc (Ev.no hb h1))), by rw [h2]; simp [hb]⟩
  ·exact ⟨(pre.length : Int), Ev.step (Ev.of_eq base (Ev.bind hc (Ev.yes hb (Ev.ret _)))), by simp [hb]⟩
theorem tch_len (s : Stmt) : (tch s).length ≤ szE s.E + 1 := by
 have := nm_len.1 s.E
 unfold tch
 rw [List.length_append]
 split <;> split <;> (try split) <;> simp <;> omega
theorem touches_ev (s : Stmt) (l : List ByteArray) (h : szE s.E ≤ 1000000) (hl : l.length ≤ 4000000) : Ev (fun n => cost_touches n s l) (hit s l) := by
 have := tch_len s
 obtain ⟨r, h1, h2⟩ := IndexF_L0 l hl (tch s) [] (by simp; omega)
 have e : Ev (fun n => IndexFunc_string_fcost_touches_1 n (tch s) l) r := Ev.of_eq (fun n => by simp only [IndexFunc_string_fcost_touches_1]; rfl) h1
 refine Ev.of_eq (g := fun n => (tree_Touches n s).bind fun r1 => ((IndexFunc_string_fcost_touches_1 n r1 l).bind fun r1 => some (decide (r1 ≥ 0))).bind fun r2 => some r2) (fun n => by simp only [cost_touches, ContainsFunc_string_fcost_touches_1]) (Ev.bind (ttouch_ev s h) (Ev.bind (Ev.bind e (Ev.ret _)) ?_))
 rw [h2]; exact Ev.ret _
theorem hasName_L0 (w : ByteArray) : ∀ (l pre : List ByteArray), (pre ++ l).length ≤ 4000000 → Ev (fun n => ref22_hasName_L0 n (pre ++ l) w pre.length) (has l w)
 | [], pre, h => Ev.step (Ev.of_eq (g := fun n => some false) (fun n => by simp only [ref22_hasName_L0, List.append_nil, ix_ge, cond_false]) (Ev.ret _))
 | x :: r, pre, h => by
  have hp : pre.length + 1 ≤ 4000000 := by simp at h; omega
  cases hb : bytesEq x w
  ·have nx := hasName_L0 w r (pre ++ [x]) (by rw [← ix_cons]; exact h)
   refine Ev.step (Ev.of_eq (fun n => ?_) (by simpa [has, hb] using nx))
   simp only [ref22_hasName_L0, ix_lt, ix_get, cond_true, Option.bind_some, hb, cond_false]
   rw [ix_wr pre x (by omega)]; simp
  ·refine Ev.step (Ev.of_eq (g := fun n => some true) (fun n => ?_) (by simpa [has, hb] using Ev.ret _))
   simp only [ref22_hasName_L0, ix_lt, ix_get, cond_true, Option.bind_some, hb]
theorem hasName_ev (l : List ByteArray) (w : ByteArray) (h : l.length ≤ 4000000) : Ev (fun n => ref22_hasName n l w) (has l w) :=
 Ev.of_eq (fun n => by simp only [ref22_hasName]; rfl) (hasName_L0 w l [] (by simpa using h))
theorem meets_L0 (s : Stmt) (a1 : List ByteArray) (ha : a1.length ≤ 4000000) : ∀ (l pre : List ByteArray), (pre ++ l).length ≤ 4000000 → Ev (fun n => ref22_meets_L0 n s a1 (pre ++ l) pre.length) (l.any (has a1))
 | [], pre, h => Ev.step (Ev.of_eq (g := fun n => some false) (fun n => by simp only [ref22_meets_L0, List.append_nil, ix_ge, cond_false]) (Ev.ret _))
 | x :: r, pre, h => by
  have hp : pre.length + 1 ≤ 4000000 := by simp at h; omega
  have hc := hasName_ev a1 x ha
  have base : ∀ n, ref22_meets_L0 (n + 1) s a1 (pre ++ x :: r) pre.length = (ref22_hasName n a1 x).bind fun r4 => bif r4 then some true else ref22_meets_L0 n s a1 ((pre ++ [x]) ++ r) ((pre ++ [x]).length) := by
   intro n
   simp only [ref22_meets_L0, ix_lt, ix_get, cond_true, Option.bind_some]
   rw [ix_wr pre x (by omega), ← ix_cons]
  cases hb : has a1 x
  ·have nx := meets_L0 s a1 ha r (pre ++ [x]) (by rw [← ix_cons]; exact h)
   exact Ev.step (Ev.of_eq base (Ev.bind hc (Ev.no hb (by simpa [hb] using nx))))
  ·exact Ev.step (Ev.of_eq base (Ev.bind hc (Ev.yes hb (by simpa [hb] using Ev.ret _))))
theorem meets_ev (s : Stmt) (l : List ByteArray) (h : szE s.E ≤ 1000000) (hl : l.length ≤ 4000000) : Ev (fun n => ref22_meets n s l) (hit s l) := by
 have := tch_len s
 exact Ev.of_eq (g := fun n => (ref1_Touches n s).bind fun r1 => ref22_meets_L0 n s l r1 0) (fun n => by simp only [ref22_meets]) (Ev.bind (rtouch_ev s h) (meets_L0 s l hl (tch s) [] (by simp; omega)))
def wn (s : Stmt) : Nat := (flat s.Body).length + (flat s.Else).length
theorem fl1_len (s : Stmt) : (fl1 s).length = wn s + 1 := by rw [fl1_eq]; simp [wn]
theorem within_L1 (s : Stmt) (i1 i2 : Int) (hl : s.Else.length ≤ 1000000) : ∀ (l pre : List Stmt) (i : Nat), s.Else = pre ++ l → i + (flat l).length ≤ 4000000 → (∀ x ∈ l, Ev (fun n => ref22_within n x) ((wn x : Nat) : Int)) →
  Ev (fun n => ref22_within_L1 n s i1 i2 (i : Int) pre.length) ((i + (flat l).length : Nat) : Int)
 | [], pre, i, e, h, hx => by
  rw [List.append_nil] at e
  exact Ev.step (Ev.of_eq (g := fun n => some (i : Int)) (fun n => by simp only [ref22_within_L1, e, ix_ge, cond_false]) (by simpa [flat] using Ev.ret _))
 | x :: r, pre, i, e, h, hx => by
  have hp : pre.length + 1 ≤ 1000000 := by rw [e] at hl; simp at hl; omega
  have hf : (flat (x :: r)).length = wn x + 1 + (flat r).length := by rw [flat, List.length_append, fl1_len]
  have nx := within_L1 s i1 i2 hl r (pre ++ [x]) (i + 1 + wn x) (by rw [e]; exact ix_cons _ _ _) (by omega) (fun y hy => hx y (by simp [hy]))
  have w1 : wr (wr ((i : Int) + 1) + ((wn x : Nat) : Int)) = ((i + 1 + wn x : Nat) : Int) := by rw [wr_of (x := (i : Int) + 1) (by omega), wr_of (by omega)]; omega
  refine Ev.step (Ev.of_eq (g := fun n => (ref22_within n x).bind fun r8 => ref22_within_L1 n s i1 i2 (wr (wr ((i : Int) + 1) + r8)) ((pre ++ [x]).length)) (fun n => ?_) (Ev.bind (hx x (by simp)) (by rw [w1, hf, show i + (wn x + 1 + (flat r).length) = i + 1 + wn x + (flat r).length by omega]; exact nx)))
  simp only [ref22_within_L1, e, ix_lt, ix_get, cond_true, Option.bind_some]
  rw [ix_wr pre x (by omega)]
theorem within_L0 (s : Stmt) (hb : s.Body.length ≤ 1000000) (hl : s.Else.length ≤ 1000000) (hE : ∀ x ∈ s.Else, Ev (fun n => ref22_within n x) ((wn x : Nat) : Int)) : ∀ (l pre : List Stmt) (i : Nat), s.Body = pre ++ l → i + (flat l).length + (flat s.Else).length ≤ 4000000 → (∀ x ∈ l, Ev (fun n => ref22_within n x) ((wn x : Nat) : Int)) →
  Ev (fun n => ref22_within_L0 n s (i : Int) pre.length) ((i + (flat l).length + (flat s.Else).length : Nat) : Int)
 | [], pre, i, e, h, hx => by
  rw [List.append_nil] at e
  have nx := within_L1 s (i : Int) (pre.length : Int) hl s.Else [] i rfl (by omega) hE
  exact Ev.step (Ev.of_eq (fun n => by simp only [ref22_within_L0, e, ix_ge, cond_false]; rfl) (by simpa [flat] using nx))
 | x :: r, pre, i, e, h, hx => by
  have hp : pre.length + 1 ≤ 1000000 := by rw [e] at hb; simp at hb; omega
  have hf : (flat (x :: r)).length = wn x + 1 + (flat r).length := by rw [flat, List.length_append, fl1_len]
  have nx := within_L0 s hb hl hE r (pre ++ [x]) (i + 1 + wn x) (by rw [e]; exact ix_cons _ _ _) (by omega) (fun y hy => hx y (by simp [hy]))
  have w1 : wr (wr ((i : Int) + 1) + ((wn x : Nat) : Int)) = ((i + 1 + wn x : Nat) : Int) := by rw [wr_of (x := (i : Int) + 1) (by omega), wr_of (by omega)]; omega
  refine Ev.step (Ev.of_eq (g := fun n => (ref22_within n x).bind fun r4 => ref22_within_L0 n s (wr (wr ((i : Int) + 1) + r4)) ((pre ++ [x]).length)) (fun n => ?_) (Ev.bind (hx x (by simp)) (by rw [w1, hf, show i + (wn x + 1 + (flat r).length) + (flat s.Else).length = i + 1 + wn x + (flat r).length + (flat s.Else).length by omega]; exact nx)))
  simp only [ref22_within_L0, e, ix_lt, ix_get, cond_true, Option.bind_some]
  rw [ix_wr pre x (by omega)]
theorem within_all : (∀ s : Stmt, szS s ≤ 1000000 → Ev (fun n => ref22_within n s) ((wn s : Nat) : Int)) ∧ ∀ l : List Stmt, szSl l ≤ 1000000 → ∀ x ∈ l, Ev (fun n => ref22_within n x) ((wn x : Nat) : Int) := by
 refine stmt_ind ?_ (fun _ x hx => by simp at hx) ?_
 ·intro k w v m e b l a hb hl h
  rw [szS] at h
  have l1 := len_Sl b
  have l2 := len_Sl l
  have f1 := flat_len.2 b
  have f2 := flat_len.2 l
  have nx := within_L0 ⟨k, w, v, m, e, b, l, a⟩ (by simp only; omega) (by simp only; omega) (hl (by omega)) b [] 0 rfl (by simp only; omega) (hb (by omega))
  exact Ev.step (Ev.of_eq (fun n => by simp only [ref22_within]; rfl) (by simpa [wn] using nx))
 ·intro s r h1 h2 h x hx
  rw [szSl] at h
  rcases List.mem_cons.1 hx with rfl | hx
  ·exact h1 (by omega)
  ·exact h2 (by omega) x hx
theorem size_ev (s : Stmt) (h : szS s ≤ 900000) : Ev (fun n => cost_size n s) ((wn s + 1 : Nat) : Int) := by
 have e := List_ev [] [[s]] (by simp only [szT, szSl]; omega)
 have hf : ln (flats [[s]]) = ((wn s + 1 : Nat) : Int) := by
  show ((flats [[s]]).length : Int) = _
  simp only [flats, flat, List.append_nil, fl1_len]
 exact Ev.of_eq (g := fun n => (tree_List n (Prog.mk [] [[s]])).bind fun r1 => some (ln r1)) (fun n => by simp only [cost_size]) (Ev.bind e (by rw [hf]; exact Ev.ret _))
theorem Wrapped_L0 (p : Prog) (nm : List ByteArray) (hn : nm.length ≤ 4000000) (r1 : List Stmt) (hr : r1.length ≤ 900000) (hz : ∀ x ∈ r1, szS x ≤ 900000) : ∀ (m i : Nat) (acc : List Int), r1.length - i ≤ m → i ≤ 2000000 → acc.length + (r1.length - i) ≤ 1000000 → (∀ v ∈ acc, ∃ k : Nat, k < r1.length ∧ v = k) →
  ∃ L, Ev (fun n => cost_Wrapped_L0 n p nm r1 acc (i : Int)) L ∧ Ev (fun n => ref22_Wrapped_L0 n p nm r1 acc (i : Int)) L ∧ L.length ≤ 1000000 ∧ ∀ v ∈ L, ∃ k : Nat, k < r1.length ∧ v = k
 | m, i, acc, h1, h2, h3, h4 => by
  by_cases hi : i < r1.length
  ·match m, h1 with
   | 0, h1 => exact absurd h1 (by omega)
   | m + 1, h1 =>
    have d1 : decide ((i : Int) < ln r1) = true := decide_eq_true (by show (i : Int) < (r1.length : Int); omega)
    have i1 : idx r1 (i : Int) = some r1[i] := idx_of (by omega) (by rw [Int.toNat_natCast]; exact List.getElem?_eq_getElem hi)
    have hs := hz _ (List.getElem_mem hi)
    have hE : szE r1[i].E ≤ 1000000 := by
     have : ∀ s : Stmt, szE s.E ≤ szS s := by intro s; cases s; simp only [szS]; omega
     have := this r1[i]; omega
    have hw := flat_len.1 r1[i]
    rw [fl1_len] at hw
    have t1 := touches_ev r1[i] nm hE hn
    have t2 := meets_ev r1[i] nm hE hn
    cases c : hit r1[i] nm
    ·obtain ⟨L, k1, k2, k3⟩ := Wrapped_L0 p nm hn r1 hr hz m (i + 1) acc (by omega) (by omega) (by omega) h4
     have e3 : wr ((i : Int) + 1) = ((i + 1 : Nat) : Int) := by rw [wr_of (by omega)]; rfl
     refine ⟨L, Ev.step (Ev.of_eq (g := fun n => (cost_touches n r1[i] nm).bind fun r5 => bif r5 then (bif room s_int.i1.bytes acc.length [(i : Int)].length then (cost_size n r1[i]).bind fun r8 => cost_Wrapped_L0 n p nm r1 (acc ++ [(i : Int)]) (wr ((i : Int) + r8)) else none) else cost_Wrapped_L0 n p nm r1 acc ((i + 1 : Nat) : Int)) (fun n => ?_) (Ev.bind t1 (Ev.no c k1))), Ev.step (Ev.of_eq (g := fun n => (ref22_meets n r1[i] nm).bind fun r8 => bif r8 then (bif room s_int.i1.bytes acc.length [(i : Int)].length then (ref22_within n r1[i]).bind fun r11 => ref22_Wrapped_L0 n p nm r1 (acc ++ [(i : Int)]) (wr (wr ((i : Int) + r11) + 1)) else none) else ref22_Wrapped_L0 n p nm r1 acc ((i + 1 : Nat) : Int)) (fun n => ?_) (Ev.bind t2 (Ev.no c k2))), k3⟩
     ·simp only [cost_Wrapped_L0, d1, cond_true, i1, Option.bind_some, e3]
     ·simp only [ref22_Wrapped_L0, d1, cond_true, i1, Option.bind_some, jn, e3]
    ·obtain ⟨L, k1, k2, k3⟩ := Wrapped_L0 p nm hn r1 hr hz m (i + (wn r1[i] + 1)) (acc ++ [(i : Int)]) (by omega) (by omega) (by simp; omega) (fun v hv => by
      rcases List.mem_append.1 hv with hv | hv
      ·exact h4 v hv
      ·rw [List.mem_singleton] at hv; exact ⟨i, hi, hv⟩)
     have e3 : wr ((i : Int) + ((wn r1[i] + 1 : Nat) : Int)) = ((i + (wn r1[i] + 1) : Nat) : Int) := by rw [wr_of (by omega)]; omega
     have e4 : wr (wr ((i : Int) + ((wn r1[i] : Nat) : Int)) + 1) = ((i + (wn r1[i] + 1) : Nat) : Int) := by rw [wr_of (x := (i : Int) + ((wn r1[i] : Nat) : Int)) (by omega), wr_of (by omega)]; omega
     have q1 := size_ev r1[i] (by omega)
     have q2 := within_all.1 r1[i] (by omega)
     have rm : room s_int.i1.bytes acc.length [(i : Int)].length = true := roomC _ _ (by simp; omega)
     refine ⟨L, Ev.step (Ev.of_eq (g := fun n => (cost_touches n r1[i] nm).bind fun r5 => bif r5 then (bif room s_int.i1.bytes acc.length [(i : Int)].length then (cost_size n r1[i]).bind fun r8 => cost_Wrapped_L0 n p nm r1 (acc ++ [(i : Int)]) (wr ((i : Int) + r8)) else none) else cost_Wrapped_L0 n p nm r1 acc (wr ((i : Int) + 1))) (fun n => ?_) (Ev.bind t1 (Ev.yes c (Ev.yes rm (Ev.bind q1 (by rw [e3]; exact k1)))))), Ev.step (Ev.of_eq (g := fun n => (ref22_meets n r1[i] nm).bind fun r8 => bif r8 then (bif room s_int.i1.bytes acc.length [(i : Int)].length then (ref22_within n r1[i]).bind fun r11 => ref22_Wrapped_L0 n p nm r1 (acc ++ [(i : Int)]) (wr (wr ((i : Int) + r11) + 1)) else none) else ref22_Wrapped_L0 n p nm r1 acc (wr ((i : Int) + 1))) (fun n => ?_) (Ev.bind t2 (Ev.yes c (Ev.yes rm (Ev.bind q2 (by rw [e4]; exact k2)))))), k3⟩
     ·simp only [cost_Wrapped_L0, d1, cond_true, i1, Option.bind_some]
     ·simp only [ref22_Wrapped_L0, d1, cond_true, i1, Option.bind_some, jn]
  ·have d1 : decide ((i : Int) < ln r1) = false := decide_eq_false (by show ¬ (i : Int) < (r1.length : Int); omega)
   have hc : ∀ n, Clip_int n acc = some acc := fun n => by simp only [Clip_int, sub_all, Option.bind_some]
   exact ⟨acc, Ev.step (Ev.of_eq (g := fun n => some acc) (fun n => by simp only [cost_Wrapped_L0, d1, cond_false, hc, Option.bind_some]) (Ev.ret _)), Ev.step (Ev.of_eq (g := fun n => some acc) (fun n => by simp only [ref22_Wrapped_L0, d1, cond_false]) (Ev.ret _)), by omega, h4⟩
theorem Wrapped_ev (D : List Decl) (ts : List (List Stmt)) (nm : List ByteArray) (hn : nm.length ≤ 4000000) (hz : szT ts ≤ 100000) : ∃ L, Ev (fun n => cost_Wrapped n ⟨D, ts⟩ nm) L ∧ Ev (fun n => ref22_Wrapped n ⟨D, ts⟩ nm) L ∧ L.length ≤ 1000000 ∧ ∀ v ∈ L, ∃ k : Nat, k < (flats ts).length ∧ v = k := by
 have l1 := len_T ts
 obtain ⟨L, k1, k2, k3⟩ := Wrapped_L0 ⟨D, ts⟩ nm hn (flats ts) (by omega) (fun x hx => by have := sz_flats ts x hx; omega) (flats ts).length 0 [] (by omega) (by omega) (by simp; omega) (by simp)
 exact ⟨L, Ev.of_eq (g := fun n => (tree_List n ⟨D, ts⟩).bind fun r1 => cost_Wrapped_L0 n ⟨D, ts⟩ nm r1 [] 0) (fun n => by simp only [cost_Wrapped]) (Ev.bind (List_ev D ts (by omega)) k1), Ev.of_eq (g := fun n => (ref1_List n ⟨D, ts⟩).bind fun r1 => ref22_Wrapped_L0 n ⟨D, ts⟩ nm r1 [] 0) (fun n => by simp only [ref22_Wrapped]) (Ev.bind (rList_ev D ts (by omega)) k2), k3⟩
end Go.Su.Ytfmgnboplbgniaa
namespace Go.Su.Ytfmgnboplbgniaa
open Go.Mx Go.Proofs
set_option linter.unusedVariables false
set_option linter.unusedSimpArgs false
set_option maxHeartbeats 4000000
theorem hwithin_L1 (s : Stmt) (i1 i2 : Int) (hl : s.Else.length ≤ 1000000) : ∀ (l pre : List Stmt) (i : Nat), s.Else = pre ++ l → i + (flat l).length ≤ 4000000 → (∀ x ∈ l, Ev (fun n => law22_within n x) ((wn x : Nat) : Int)) →
  Ev (fun n => law22_within_L1 n s i1 i2 (i : Int) pre.length) ((i + (flat l).length : Nat) : Int)
 | [], pre, i, e, h, hx => by
  rw [List.append_nil] at e
  exact Ev.step (Ev.of_eq (g := fun n => some (i : Int)) (fun n => by simp only [law22_within_L1, e, ix_ge, cond_false]) (by simpa [flat] using Ev.ret _))
 | x :: r, pre, i, e, h, hx => by
  have hp : pre.length + 1 ≤ 1000000 := by rw [e] at hl; simp at hl; omega
  have hf : (flat (x :: r)).length = wn x + 1 + (flat r).length := by rw [flat, List.length_append, fl1_len]
  have nx := hwithin_L1 s i1 i2 hl r (pre ++ [x]) (i + 1 + wn x) (by rw [e]; exact ix_cons _ _ _) (by omega) (fun y hy => hx y (by simp [hy]))
  have w1 : wr (wr ((i : Int) + 1) + ((wn x : Nat) : Int)) = ((i + 1 + wn x : Nat) : Int) := by rw [wr_of (x := (i : Int) + 1) (by omega), wr_of (by omega)]; omega
  refine Ev.step (Ev.of_eq (g := fun n => (law22_within n x).bind fun r8 => law22_within_L1 n s i1 i2 (wr (wr ((i : Int) + 1) + r8)) ((pre ++ [x]).length)) (fun n => ?_) (Ev.bind (hx x (by simp)) (by rw [w1, hf, show i + (wn x + 1 + (flat r).length) = i + 1 + wn x + (flat r).length by omega]; exact nx)))
  simp only [law22_within_L1, e, ix_lt, ix_get, cond_true, Option.bind_some]
  rw [ix_wr pre x (by omega)]
theorem hwithin_L0 (s : Stmt) (hb : s.Body.length ≤ 1000000) (hl : s.Else.length ≤ 1000000) (hE : ∀ x ∈ s.Else, Ev (fun n => law22_within n x) ((wn x : Nat) : Int)) : ∀ (l pre : List Stmt) (i : Nat), s.Body = pre ++ l → i + (flat l).length + (flat s.Else).length ≤ 4000000 → (∀ x ∈ l, Ev (fun n => law22_within n x) ((wn x : Nat) : Int)) →
  Ev (fun n => law22_within_L0 n s (i : Int) pre.length) ((i + (flat l).length + (flat s.Else).length : Nat) : Int)
 | [], pre, i, e, h, hx => by
  rw [List.append_nil] at e
  have nx := hwithin_L1 s (i : Int) (pre.length : Int) hl s.Else [] i rfl (by omega) hE
  exact Ev.step (Ev.of_eq (fun n => by simp only [law22_within_L0, e, ix_ge, cond_false]; rfl) (by simpa [flat] using nx))
 | x :: r, pre, i, e, h, hx => by
  have hp : pre.length + 1 ≤ 1000000 := by rw [e] at hb; simp at hb; omega
  have hf : (flat (x :: r)).length = wn x + 1 + (flat r).length := by rw [flat, List.length_append, fl1_len]
  have nx := hwithin_L0 s hb hl hE r (pre ++ [x]) (i + 1 + wn x) (by rw [e]; exact ix_cons _ _ _) (by omega) (fun y hy => hx y (by simp [hy]))
  have w1 : wr (wr ((i : Int) + 1) + ((wn x : Nat) : Int)) = ((i + 1 + wn x : Nat) : Int) := by rw [wr_of (x := (i : Int) + 1) (by omega), wr_of (by omega)]; omega
  refine Ev.step (Ev.of_eq (g := fun n => (law22_within n x).bind fun r4 => law22_within_L0 n s (wr (wr ((i : Int) + 1) + r4)) ((pre ++ [x]).length)) (fun n => ?_) (Ev.bind (hx x (by simp)) (by rw [w1, hf, show i + (wn x + 1 + (flat r).length) + (flat s.Else).length = i + 1 + wn x + (flat r).length + (flat s.Else).length by omega]; exact nx)))
  simp only [law22_within_L0, e, ix_lt, ix_get, cond_true, Option.bind_some]
  rw [ix_wr pre x (by omega)]
theorem hwithin_all : (∀ s : Stmt, szS s ≤ 1000000 → Ev (fun n => law22_within n s) ((wn s : Nat) : Int)) ∧ ∀ l : List Stmt, szSl l ≤ 1000000 → ∀ x ∈ l, Ev (fun n => law22_within n x) ((wn x : Nat) : Int) := by
 refine stmt_ind ?_ (fun _ x hx => by simp at hx) ?_
 ·intro k w v m e b l a hb hl h
  rw [szS] at h
  have l1 := len_Sl b
  have l2 := len_Sl l
  have f1 := flat_len.2 b
  have f2 := flat_len.2 l
  have nx := hwithin_L0 ⟨k, w, v, m, e, b, l, a⟩ (by simp only; omega) (by simp only; omega) (hl (by omega)) b [] 0 rfl (by simp only; omega) (hb (by omega))
  exact Ev.step (Ev.of_eq (fun n => by simp only [law22_within]; rfl) (by simpa [wn] using nx))
 ·intro s r h1 h2 h x hx
  rw [szSl] at h
  rcases List.mem_cons.1 hx with rfl | hx
  ·exact h1 (by omega)
  ·exact h2 (by omega) x hx
def wrp (r : List Stmt) (nm : List ByteArray) : Nat → Nat → List Nat
 | 0, _ => []
 | m + 1, i => match r[i]? with
  | none => []
  | some s => bif hit s nm then i :: wrp r nm m (i + (wn s + 1)) else wrp r nm m (i + 1)
def cov (r : List Stmt) (i k : Nat) : Bool := match r[k]? with
 | none => false
 | some s => decide (k ≤ i) && decide (i ≤ k + wn s)
theorem wrp_L0 (p : Prog) (nm : List ByteArray) (hn : nm.length ≤ 4000000) (r1 : List Stmt) (hr : r1.length ≤ 900000) (hz : ∀ x ∈ r1, szS x ≤ 900000) : ∀ (m i : Nat) (acc : List Int), r1.length - i ≤ m → i ≤ 2000000 → acc.length + (r1.length - i) ≤ 1000000 →
  Ev (fun n => cost_Wrapped_L0 n p nm r1 acc (i : Int)) (acc ++ (wrp r1 nm m i).map fun (k : Nat) => (k : Int))
 | m, i, acc, h1, h2, h3 => by
  by_cases hi : i < r1.length
  ·match m, h1 with
   | 0, h1 => exact absurd h1 (by omega)
   | m + 1, h1 =>
    have d1 : decide ((i : Int) < ln r1) = true := decide_eq_true (by show (i : Int) < (r1.length : Int); omega)
    have g1 : r1[i]? = some r1[i] := List.getElem?_eq_getElem hi
    have i1 : idx r1 (i : Int) = some r1[i] := idx_of (by omega) (by rw [Int.toNat_natCast]; exact g1)
    have hs := hz _ (List.getElem_mem hi)
    have hE : szE r1[i].E ≤ 1000000 := by
     have : ∀ s : Stmt, szE s.E ≤ szS s := by intro s; cases s; simp only [szS]; omega
     have := this r1[i]; omega
    have hw := flat_len.1 r1[i]
    rw [fl1_len] at hw
    have t1 := touches_ev r1[i] nm hE hn
    rw [wrp, g1]
    cases c : hit r1[i] nm
    ·have k1 := wrp_L0 p nm hn r1 hr hz m (i + 1) acc (by omega) (by omega) (by omega)
     have e3 : wr ((i : Int) + 1) = ((i + 1 : Nat) : Int) := by rw [wr_of (by omega)]; rfl
     refine Ev.step (Ev.of_eq (g := fun n => (cost_touches n r1[i] nm).bind fun r5 => bif r5 then (bif room s_int.i1.bytes acc.length [(i : Int)].length then (cost_size n r1[i]).bind fun r8 => cost_Wrapped_L0 n p nm r1 (acc ++ [(i : Int)]) (wr ((i : Int) + r8)) else none) else cost_Wrapped_L0 n p nm r1 acc ((i + 1 : Nat) : Int)) (fun n => ?_) (Ev.bind t1 (Ev.no c (by simpa [c] using k1))))
     simp only [cost_Wrapped_L0, d1, cond_true, i1, Option.bind_some, e3]
    ·have k1 := wrp_L0 p nm hn r1 hr hz m (i + (wn r1[i] + 1)) (acc ++ [(i : Int)]) (by omega) (by omega) (by simp; omega)
     have e3 : wr ((i : Int) + ((wn r1[i] + 1 : Nat) : Int)) = ((i + (wn r1[i] + 1) : Nat) : Int) := by rw [wr_of (by omega)]; omega
     have q1 := size_ev r1[i] (by omega)
     have rm : room s_int.i1.bytes acc.length [(i : Int)].length = true := roomC _ _ (by simp; omega)
     refine Ev.step (Ev.of_eq (g := fun n => (cost_touches n r1[i] nm).bind fun r5 => bif r5 then (bif room s_int.i1.bytes acc.length [(i : Int)].length then (cost_size n r1[i]).bind fun r8 => cost_Wrapped_L0 n p nm r1 (acc ++ [(i : Int)]) (wr ((i : Int) + r8)) else none) else cost_Wrapped_L0 n p nm r1 acc (wr ((i : Int) + 1))) (fun n => ?_) (Ev.bind t1 (Ev.yes c (Ev.yes rm (Ev.bind q1 (by rw [e3]; simpa [c] using k1))))))
     simp only [cost_Wrapped_L0, d1, cond_true, i1, Option.bind_some]
  ·have d1 : decide ((i : Int) < ln r1) = false := decide_eq_false (by show ¬ (i : Int) < (r1.length : Int); omega)
   have hc : ∀ n, Clip_int n acc = some acc := fun n => by simp only [Clip_int, sub_all, Option.bind_some]
   have g1 : r1[i]? = none := List.getElem?_eq_none (by omega)
   have e : wrp r1 nm m i = [] := by cases m <;> simp [wrp, g1]
   rw [e]
   exact Ev.step (Ev.of_eq (g := fun n => some acc) (fun n => by simp only [cost_Wrapped_L0, d1, cond_false, hc, Option.bind_some]) (by simpa using Ev.ret acc))
theorem wrp_ev (D : List Decl) (ts : List (List Stmt)) (nm : List ByteArray) (hn : nm.length ≤ 4000000) (hz : szT ts ≤ 100000) : Ev (fun n => cost_Wrapped n ⟨D, ts⟩ nm) ((wrp (flats ts) nm (flats ts).length 0).map fun (k : Nat) => (k : Int)) := by
 have l1 := len_T ts
 have k1 := wrp_L0 ⟨D, ts⟩ nm hn (flats ts) (by omega) (fun x hx => by have := sz_flats ts x hx; omega) (flats ts).length 0 [] (by omega) (by omega) (by simp; omega)
 exact Ev.of_eq (g := fun n => (tree_List n ⟨D, ts⟩).bind fun r1 => cost_Wrapped_L0 n ⟨D, ts⟩ nm r1 [] 0) (fun n => by simp only [cost_Wrapped]) (Ev.bind (List_ev D ts (by omega)) k1)
theorem wrp_lo (r : List Stmt) (nm : List ByteArray) : ∀ (m i k : Nat), k ∈ wrp r nm m i → i ≤ k ∧ ∃ s, r[k]? = some s ∧ hit s nm = true
 | 0, i, k, h => by simp [wrp] at h
 | m + 1, i, k, h => by
  rw [wrp] at h
  cases g : r[i]? with
  | none => rw [g] at h; simp at h
  | some s =>
   rw [g] at h
   cases c : hit s nm
   ·simp only [c, cond_false] at h
    have := wrp_lo r nm m (i + 1) k h
    exact ⟨by omega, this.2⟩
   ·simp only [c, cond_true] at h
    rcases List.mem_cons.1 h with rfl | h
    ·exact ⟨Nat.le_refl _, s, g, c⟩
    ·have := wrp_lo r nm m (i + (wn s + 1)) k h
     exact ⟨by omega, this.2⟩
theorem cov_lt (r : List Stmt) (i k : Nat) (h : i < k) : cov r i k = false := by
 unfold cov; split
 ·rfl
 ·rw [decide_eq_false (by omega)]; rfl
theorem cnt_zero (r : List Stmt) (i : Nat) : ∀ L : List Nat, (∀ k ∈ L, i < k) → (L.filter (cov r i)).length = 0
 | [], _ => rfl
 | k :: L, h => by
  rw [List.filter_cons, cov_lt r i k (h k (by simp))]
  exact cnt_zero r i L fun x hx => h x (by simp [hx])
theorem wrp_cnt (r : List Stmt) (nm : List ByteArray) : ∀ (m i j : Nat), r.length - i ≤ m → i ≤ j → ((wrp r nm m i).filter (cov r j)).length ≤ 1 ∧ ∀ s, r[j]? = some s → hit s nm = true → ((wrp r nm m i).filter (cov r j)).length = 1
 | 0, i, j, h1, h2 => ⟨by simp [wrp], fun s hs => by rw [List.getElem?_eq_none (by omega)] at hs; cases hs⟩
 | m + 1, i, j, h1, h2 => by
  rw [wrp]
  cases g : r[i]? with
  | none =>
   have : r.length ≤ i := List.getElem?_eq_none_iff.1 g
   exact ⟨by simp, fun s hs => by rw [List.getElem?_eq_none (by omega)] at hs; cases hs⟩
  | some s =>
   cases c : hit s nm
   ·simp only [c, cond_false]
    by_cases hj : j = i
    ·subst hj
     have z := cnt_zero r j (wrp r nm m (j + 1)) fun k hk => by have := (wrp_lo r nm m (j + 1) k hk).1; omega
     exact ⟨by omega, fun s' hs hh => by rw [g] at hs; rw [← Option.some.inj hs, c] at hh; cases hh⟩
    ·exact wrp_cnt r nm m (i + 1) j (by omega) (by omega)
   ·simp only [c, cond_true, List.filter_cons]
    by_cases hj : j ≤ i + wn s
    ·have e : cov r j i = true := by unfold cov; rw [g]; simp only [decide_eq_true h2, decide_eq_true hj]; rfl
     have z := cnt_zero r j (wrp r nm m (i + (wn s + 1))) fun k hk => by have := (wrp_lo r nm m (i + (wn s + 1)) k hk).1; omega
     rw [e]
     simp only [if_true, List.length_cons, z]
     exact ⟨by omega, fun _ _ _ => by simp⟩
    ·have e : cov r j i = false := by unfold cov; rw [g]; simp only [decide_eq_false hj, Bool.and_false]
     rw [e]
     exact wrp_cnt r nm m (i + (wn s + 1)) j (by omega) (by omega)
theorem has_app (a b : List ByteArray) (w : ByteArray) : has (a ++ b) w = (has a w || has b w) := by simp [has]
theorem hit_more (s : Stmt) (a b : List ByteArray) (h : hit s b = true) : hit s (a ++ b) = true := by
 unfold hit at h ⊢
 rw [List.any_eq_true] at h ⊢
 obtain ⟨w, h1, h2⟩ := h
 exact ⟨w, h1, by rw [has_app, h2, Bool.or_true]⟩
end Go.Su.Ytfmgnboplbgniaa
namespace Go.Su.Ytfmgnboplbgniaa
open Go.Mx Go.Proofs
set_option linter.unusedVariables false
set_option linter.unusedSimpArgs false
set_option maxHeartbeats 4000000
set_option maxRecDepth 1000000 in
theorem known22_ev : Ev (fun n => law22_known n) true := by
 refine ⟨200, fun n hn => ?_⟩
 obtain ⟨k, rfl⟩ : ∃ k, n = k + 200 := ⟨n - 200, by omega⟩
 have : ∀ k, law22_known (k + 200) = some true := by intro k; kernel_rfl
 exact this k
theorem some_step (i : Nat) (h : i < 6) : ∃ w p, idx [k_x, k_y, k_z, k_a, k_t, k_nobody] (i : Int) = some w ∧ ishl .i64 1 (IntKind.u64.wrap (i : Int)) = some p ∧ (p == 0) = false := by
 match i, h with
 | 0, _ => exact ⟨k_x, 1, rfl, by kernel_rfl, rfl⟩
 | 1, _ => exact ⟨k_y, 2, rfl, by kernel_rfl, rfl⟩
 | 2, _ => exact ⟨k_z, 4, rfl, by kernel_rfl, rfl⟩
 | 3, _ => exact ⟨k_a, 8, rfl, by kernel_rfl, rfl⟩
 | 4, _ => exact ⟨k_t, 16, rfl, by kernel_rfl, rfl⟩
 | 5, _ => exact ⟨k_nobody, 32, rfl, by kernel_rfl, rfl⟩
 | j + 6, h => exact absurd h (by omega)
theorem some_L0 (a : Int) : ∀ (m i : Nat) (acc : List ByteArray), 6 - i ≤ m → i ≤ 6 → acc.length ≤ i → ∃ L, Ev (fun n => law22_some_L0 n a acc (i : Int)) L ∧ L.length ≤ 6
 | 0, i, acc, h1, h2, h3 => by
  have d1 : decide ((i : Int) < 6) = false := decide_eq_false (by omega)
  exact ⟨acc, Ev.step (Ev.of_eq (g := fun n => some acc) (fun n => by simp only [law22_some_L0, d1, cond_false]) (Ev.ret _)), by omega⟩
 | m + 1, i, acc, h1, h2, h3 => by
  by_cases hi : i < 6
  ·have d1 : decide ((i : Int) < 6) = true := decide_eq_true (by omega)
   have e3 : wr ((i : Int) + 1) = ((i + 1 : Nat) : Int) := by rw [wr_of (by omega)]; rfl
   obtain ⟨w, p, g1, g2, g3⟩ := some_step i hi
   have rm : room s_string.i1.bytes acc.length [w].length = true := roomW _ _ (by simp; omega)
   cases c : (((wr (a.tdiv p)).tmod 2) != 0)
   ·obtain ⟨L, k1, k2⟩ := some_L0 a m (i + 1) acc (by omega) (by omega) (by omega)
    exact ⟨L, Ev.step (Ev.of_eq (fun n => by simp only [law22_some_L0, d1, cond_true, jn, g1, g2, g3, c, cond_false, Option.bind_some, e3]) k1), k2⟩
   ·obtain ⟨L, k1, k2⟩ := some_L0 a m (i + 1) (acc ++ [w]) (by omega) (by omega) (by simp; omega)
    exact ⟨L, Ev.step (Ev.of_eq (fun n => by simp only [law22_some_L0, d1, cond_true, jn, g1, g2, g3, c, cond_false, Option.bind_some, e3, rm]) k1), k2⟩
  ·exact some_L0 a m i acc (by omega) h2 h3
end Go.Su.Ytfmgnboplbgniaa
