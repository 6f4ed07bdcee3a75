/-
  Programs out of raw numbers are shown: to an end, in not too long a text.
-/
import Derived.Test.YtfmgnboplbgniaaZPlErase
namespace Go.Su.Ytfmgnboplbgniaa
open Go.Mx Go.Proofs
set_option linter.unusedVariables false
set_option linter.unusedSimpArgs false
set_option maxHeartbeats 4000000
theorem copyB_ev (l : List Stmt) (h : szSl l ≤ 1000000) : Ev (fun n => tree_copyBlock n l) l := by
 have hl := len_Sl l
 have hr : room s_Stmt.i1.bytes ([] : List Stmt).length l.length = true := room_of (by
  have : s_Stmt.i1.bytes = 168 := rfl
  rw [this]; simp only [List.length_nil]; omega)
 refine Ev.step (Ev.of_eq (g := fun n => tree_copyBlock_L0 n l l l l 0) (fun n => ?_) ?_)
 ·simp only [tree_copyBlock, Clone_Stmt, Clip_Stmt_o, hr, cond_true, Option.bind_some]; rfl
 ·exact copyS_ev.2 l l l [] h (by simp; omega)
theorem Copy_L0 (D r1 r2 : List Decl) (ts : List (List Stmt)) (hz : szT ts ≤ 1000000) : ∀ (l pre : List (List Stmt)), ts = pre ++ l → Ev (fun n => tree_Copy_L0 n ⟨D, ts⟩ r1 r2 pre pre.length) ⟨r2, ts⟩
 | [], pre, e => by
  rw [List.append_nil] at e
  subst e
  refine Ev.step (Ev.of_eq (g := fun n => some ⟨r2, ts⟩) (fun n => ?_) (Ev.ret _))
  simp only [tree_Copy_L0, ix_ge, cond_false, Clip_LStmt_o, Option.bind_some]
 | t :: r, pre, e => by
  have hts := len_T ts
  have hp : pre.length + 1 ≤ ts.length := by rw [e]; simp
  have ht : szSl t ≤ szT ts := by
   rw [e]
   have : ∀ a b : List (List Stmt), szT (a ++ b) = szT a + szT b := by
    intro a b
    induction a with
    | nil => simp [szT]
    | cons x r ih => rw [List.cons_append, szT, szT, ih]; omega
   rw [this, szT]; omega
  refine Ev.step (Ev.of_eq (g := fun n => (tree_copyBlock n t).bind fun r6 => bif room s_LStmt.i1.bytes pre.length [r6].length then tree_Copy_L0 n ⟨D, ts⟩ r1 r2 (pre ++ [r6]) ((pre ++ [t]).length) else none) (fun n => ?_) (Ev.bind (copyB_ev t (by omega)) (Ev.yes (roomT2 _ _ (by simp; omega)) ?_)))
  ·have l1 : decide ((pre.length : Int) < ln ts) = true := by rw [e]; exact ix_lt _ _ _
   have l2 : idx ts (pre.length : Int) = some t := by rw [e]; exact ix_get _ _ _
   simp only [tree_Copy_L0, l1, l2, cond_true, Option.bind_some]
   rw [ix_wr pre t (by omega)]
  ·exact Copy_L0 D r1 r2 ts hz r (pre ++ [t]) (by rw [e]; exact ix_cons _ _ _)
theorem Copy_ev (D : List Decl) (ts : List (List Stmt)) (hD : D.length ≤ 1000000) (hz : szT ts ≤ 1000000) : Ev (fun n => tree_Copy n ⟨D, ts⟩) ⟨D, ts⟩ := by
 have hr : room s_Decl.i1.bytes ([] : List Decl).length D.length = true := roomD _ _ (by simp; omega)
 refine Ev.of_eq (g := fun n => tree_Copy_L0 n ⟨D, ts⟩ D D [] 0) (fun n => ?_) (Copy_L0 D D D ts hz ts [] rfl)
 simp only [tree_Copy, Clone_Decl, Clip_Decl_o, hr, cond_true, Option.bind_some, List.nil_append]
theorem bad_ev (nm : List ByteArray) (hn : nm.length ≤ 4000000) (d : Decl) : Ev (fun n => erase_Of_1 n d nm) (!kp nm d) := by
 unfold kp
 cases c : (d.Kind == 5)
 ·exact Ev.of_eq (g := fun n => some false) (fun n => by simp only [erase_Of_1, jn, c, cond_false]) (by simpa using Ev.ret false)
 ·exact Ev.of_eq (g := fun n => (Contains_string n nm d.Name).bind fun r3 => some r3) (fun n => by simp only [erase_Of_1, jn, c, cond_true]) (Ev.bind (Contains_ev nm d.Name hn) (by simpa using Ev.ret (has nm d.Name)))
theorem Idx_L0 (nm : List ByteArray) (hn : nm.length ≤ 4000000) : ∀ (l pre : List Decl), (pre ++ l).length ≤ 1000000 →
  (l.all (kp nm) = true ∧ Ev (fun n => IndexFunc_Decl_k_ferase_Of_1_L0 n (pre ++ l) nm pre.length) (-1, nm)) ∨
  ∃ a x b, l = a ++ x :: b ∧ a.all (kp nm) = true ∧ kp nm x = false ∧ Ev (fun n => IndexFunc_Decl_k_ferase_Of_1_L0 n (pre ++ l) nm pre.length) (((pre ++ a).length : Int), nm)
 | [], pre, h => .inl ⟨rfl, Ev.step (Ev.of_eq (g := fun n => some (-1, nm)) (fun n => by simp only [IndexFunc_Decl_k_ferase_Of_1_L0, List.append_nil, ix_ge, cond_false]) (Ev.ret _))⟩
 | x :: r, pre, h => by
  have hp : pre.length + 1 ≤ 1000000 := by simp at h; omega
  have hb := bad_ev nm hn x
  have base : ∀ n, IndexFunc_Decl_k_ferase_Of_1_L0 (n + 1) (pre ++ x :: r) nm pre.length = (erase_Of_1 n x nm).bind fun r3 => bif r3 then some ((pre.length : Int), nm) else IndexFunc_Decl_k_ferase_Of_1_L0 n ((pre ++ [x]) ++ r) nm ((pre ++ [x]).length) := by
   intro n
   simp only [IndexFunc_Decl_k_ferase_Of_1_L0, ix_lt, ix_get, cond_true, Option.bind_some]
   rw [ix_wr pre x (by omega), ← ix_cons]
  cases hx : kp nm x
  ·rw [hx] at hb
   refine .inr ⟨[], x, r, rfl, rfl, hx, Ev.step (Ev.of_eq base (Ev.bind hb (Ev.yes rfl ?_)))⟩
   rw [List.append_nil]; exact Ev.ret _
  ·rw [hx] at hb
   rcases Idx_L0 nm hn r (pre ++ [x]) (by rw [← ix_cons]; exact h) with ⟨h1, h2⟩ | ⟨a, y, b, h1, h2, h3, h4⟩
   ·exact .inl ⟨by simp [hx, h1], Ev.step (Ev.of_eq base (Ev.bind hb (Ev.no rfl h2)))⟩
   ·refine .inr ⟨x :: a, y, b, by rw [h1]; rfl, by simp [hx, h2], h3, Ev.step (Ev.of_eq base (Ev.bind hb (Ev.no rfl ?_)))⟩
    simpa using h4
theorem set_mid {α : Type} (a : List α) (m : α) (r : List α) (x : α) : (a ++ m :: r).set ((a.length : Int)).toNat x = a ++ x :: r := by simp
theorem Del_L0 (ds : List Decl) (nm : List ByteArray) (hn : nm.length ≤ 4000000) (i0 : Int) : ∀ (rest don mid : List Decl), mid ≠ [] → (don ++ mid ++ rest).length ≤ 1000000 →
  Ev (fun n => DeleteFunc_Decl_q_ferase_Of_1_L0 n ds nm (i0, nm) (don ++ mid ++ rest) don.length ((don ++ mid).length : Nat)) (don ++ rest.filter (kp nm), nm)
 | [], don, mid, hm, h => by
  rw [List.append_nil] at h ⊢
  have hl : 0 < mid.length := List.length_pos_iff.2 hm
  have t1 : inT (don.length : Int) (don ++ mid).length = true := by
   unfold inT
   rw [decide_eq_true (by omega), decide_eq_true (by simp; omega)]; rfl
  have t2 : inT (don.length : Int) (clr (don ++ mid) (don.length : Int) (⟨0, b0, 0, c0⟩ : Decl)).length = true := by rw [clr_length]; exact t1
  have e : (clr (don ++ mid) (don.length : Int) (⟨0, b0, 0, c0⟩ : Decl)).take ((don.length : Int)).toNat = don := by
   unfold clr; simp
  refine Ev.step (Ev.of_eq (g := fun n => some (don, nm)) (fun n => ?_) (by simpa using Ev.ret (don, nm)))
  simp only [DeleteFunc_Decl_q_ferase_Of_1_L0, ix_ge, cond_false, t1, t2, cond_true, e]
 | x :: r, don, m :: mid, hm, h => by
  have hp : (don ++ m :: mid).length + 1 ≤ 1000000 := by simp at h ⊢; omega
  have hb := bad_ev nm hn x
  have hd : wr ((don.length : Int) + 1) = ((don ++ [x]).length : Int) := ix_wr don x (by simp at hp; omega)
  have hd2 : wr ((((don ++ m :: mid).length : Nat) : Int) + 1) = (((don ++ m :: mid) ++ [x]).length : Int) := ix_wr (don ++ m :: mid) x (by omega)
  have g : idx ((don ++ m :: mid) ++ x :: r) (don.length : Int) = some m := by
   rw [List.append_assoc, List.cons_append]; exact ix_get _ _ _
  have st : ((don ++ m :: mid) ++ x :: r).set ((don.length : Int)).toNat x = ((don ++ [x]) ++ (mid ++ [x])) ++ r := by
   rw [List.append_assoc, List.cons_append, set_mid]; simp
  have base : ∀ n, DeleteFunc_Decl_q_ferase_Of_1_L0 (n + 1) ds nm (i0, nm) ((don ++ m :: mid) ++ x :: r) don.length ((don ++ m :: mid).length : Nat) =
    (erase_Of_1 n x nm).bind fun r9 => bif !r9 then DeleteFunc_Decl_q_ferase_Of_1_L0 n ds nm (i0, nm) (((don ++ [x]) ++ (mid ++ [x])) ++ r) ((don ++ [x]).length : Nat) (((don ++ [x]) ++ (mid ++ [x])).length : Nat)
     else DeleteFunc_Decl_q_ferase_Of_1_L0 n ds nm (i0, nm) ((don ++ (m :: mid ++ [x])) ++ r) don.length ((don ++ (m :: mid ++ [x])).length : Nat) := by
   intro n
   have el : (((don ++ m :: mid) ++ [x]).length : Int) = (((don ++ [x]) ++ (mid ++ [x])).length : Int) := by simp
   have el2 : (((don ++ m :: mid) ++ [x]).length : Int) = ((don ++ (m :: mid ++ [x])).length : Int) := by simp
   have ea : (don ++ m :: mid) ++ x :: r = (don ++ (m :: mid ++ [x])) ++ r := by simp
   simp only [DeleteFunc_Decl_q_ferase_Of_1_L0, ix_lt, ix_get, cond_true, Option.bind_some, jn, g, st, hd, hd2]
   congr 1
   funext r9
   cases r9
   ·simp only [Bool.not_false, cond_true]; rw [el]
   ·simp only [Bool.not_true, cond_false]; rw [el2, ea]
  rw [List.filter_cons]
  cases hx : kp nm x
  ·rw [hx] at hb
   refine Ev.step (Ev.of_eq base (Ev.bind hb (Ev.no rfl ?_)))
   simpa using Del_L0 ds nm hn i0 r don (m :: mid ++ [x]) (by simp) (by simp at h ⊢; omega)
  ·rw [hx] at hb
   refine Ev.step (Ev.of_eq base (Ev.bind hb (Ev.yes rfl ?_)))
   simpa using Del_L0 ds nm hn i0 r (don ++ [x]) (mid ++ [x]) (by simp) (by simp at h ⊢; omega)
theorem Del_ev (ds : List Decl) (nm : List ByteArray) (hn : nm.length ≤ 4000000) (h : ds.length ≤ 900000) : Ev (fun n => DeleteFunc_Decl_q_ferase_Of_1 n ds nm) (ds.filter (kp nm), nm) := by
 rcases Idx_L0 nm hn ds [] (by simpa using (by omega : ds.length ≤ 1000000)) with ⟨h1, h2⟩ | ⟨a, x, b, h1, h2, h3, h4⟩
 ·have e : ds.filter (kp nm) = ds := List.filter_eq_self.2 fun d hd => List.all_eq_true.1 h1 d hd
  rw [e]
  refine Ev.of_eq (g := fun n => (IndexFunc_Decl_k_ferase_Of_1 n ds nm).bind fun r1 => bif (r1.1 == (-1)) then some (ds, r1.2) else DeleteFunc_Decl_q_ferase_Of_1_L0 n ds nm r1 ds r1.1 (wr (r1.1 + 1))) (fun n => by simp only [DeleteFunc_Decl_q_ferase_Of_1]) (Ev.bind (x := (-1, nm)) (Ev.of_eq (fun n => by simp only [IndexFunc_Decl_k_ferase_Of_1]; rfl) h2) (Ev.ret _))
 ·subst h1
  have hl : a.length + 1 ≤ 900000 := by simp at h; omega
  have ha : a.filter (kp nm) = a := List.filter_eq_self.2 fun d hd => List.all_eq_true.1 h2 d hd
  have e : (a ++ x :: b).filter (kp nm) = a ++ b.filter (kp nm) := by rw [List.filter_append, List.filter_cons, h3, ha]; simp
  rw [e]
  rw [List.nil_append] at h4
  have hI : Ev (fun n => IndexFunc_Decl_k_ferase_Of_1 n (a ++ x :: b) nm) (((a.length : Nat) : Int), nm) := Ev.of_eq (fun n => by simp only [IndexFunc_Decl_k_ferase_Of_1]; rfl) h4
  have ne : (((a.length : Nat) : Int) == -1) = false := by simp
  have w1 : wr (((a.length : Nat) : Int) + 1) = ((a ++ [x]).length : Int) := ix_wr a x (by omega)
  have := Del_L0 (a ++ x :: b) nm hn (a.length : Nat) b a [x] (by simp) (by simp at h ⊢; omega)
  refine Ev.of_eq (g := fun n => (IndexFunc_Decl_k_ferase_Of_1 n (a ++ x :: b) nm).bind fun r1 => bif (r1.1 == (-1)) then some ((a ++ x :: b), r1.2) else DeleteFunc_Decl_q_ferase_Of_1_L0 n (a ++ x :: b) nm r1 (a ++ x :: b) r1.1 (wr (r1.1 + 1))) (fun n => by simp only [DeleteFunc_Decl_q_ferase_Of_1]) (Ev.bind hI (Ev.no ne ?_))
  rw [show ((((a.length : Nat) : Int), nm) : Int × List ByteArray).1 = ((a.length : Nat) : Int) from rfl, w1]
  simpa using this
theorem up_L0 (p : Prog) (a1 um : List ByteArray) (hu : um.length ≤ 4000000) (q : Prog) (r2 : List Decl × List ByteArray) (r3 : List Decl) (h3 : r3.length ≤ 900000) (R : List Decl → Prog)
  (hend : ∀ l i, l.length = r3.length → Ev (fun n => erase_Of_L1 n p a1 um q r2 r3 l i q.Threads 0) (R l)) : ∀ (l pre : List Decl), r3.length = (pre ++ l).length →
  Ev (fun n => erase_Of_L0 n p a1 um q r2 r3 (pre ++ l) pre.length) (R (pre ++ l.map (up um)))
 | [], pre, e => by
  have d : decide ((pre.length : Int) < ln r3) = false := decide_eq_false (by show ¬ ((pre.length : Nat) : Int) < ((r3.length : Nat) : Int); rw [e]; simp)
  refine Ev.step (Ev.of_eq (fun n => ?_) (by simpa using hend pre pre.length (by rw [e]; simp)))
  simp only [erase_Of_L0, d, cond_false, List.append_nil]
 | x :: r, pre, e => by
  have hp : pre.length + 1 ≤ 900000 := by rw [e] at h3; simp at h3; omega
  have d : decide ((pre.length : Int) < ln r3) = true := decide_eq_true (by show ((pre.length : Nat) : Int) < ((r3.length : Nat) : Int); rw [e]; simp; omega)
  have nx := up_L0 p a1 um hu q r2 r3 h3 R hend r (pre ++ [up um x]) (by rw [e]; simp)
  rw [← ix_cons] at nx
  have e3 : wr ((pre.length : Int) + 1) = ((pre ++ [up um x]).length : Int) := ix_wr pre (up um x) (by omega)
  have se : ∀ y : Decl, (pre ++ x :: r).set ((pre.length : Int)).toNat y = pre ++ y :: r := fun y => set_mid _ _ _ _
  have base : ∀ n, erase_Of_L0 (n + 1) p a1 um q r2 r3 (pre ++ x :: r) pre.length =
    (fun J : Bool → Option Prog => bif (x.Kind == 3) then (Contains_string n um x.Name).bind J else J false) fun b => bif b then erase_Of_L0 n p a1 um q r2 r3 (pre ++ ⟨1, x.Name, x.N, x.At⟩ :: r) ((pre ++ [up um x]).length) else erase_Of_L0 n p a1 um q r2 r3 (pre ++ x :: r) ((pre ++ [up um x]).length) := by
   intro n
   simp only [erase_Of_L0, d, ix_get, cond_true, Option.bind_some, jn, se]
   rw [e3]
  rw [List.map_cons, show pre ++ up um x :: r.map (up um) = pre ++ [up um x] ++ r.map (up um) by simp]
  refine Ev.step (Ev.of_eq base ?_)
  cases c : (x.Kind == 3)
  ·have u : up um x = x := by unfold up; rw [c]; rfl
   rw [u] at nx ⊢
   exact nx
  ·refine Ev.bind (Contains_ev um x.Name hu) ?_
   cases hh : has um x.Name
   ·have u : up um x = x := by unfold up; rw [c, hh]; rfl
    rw [u] at nx ⊢
    exact nx
   ·have u : up um x = ⟨1, x.Name, x.N, x.At⟩ := by unfold up; rw [c, hh]; rfl
    rw [u] at nx ⊢
    exact nx
theorem thr_L1 (p : Prog) (a1 nm um : List ByteArray) (hn : nm.length ≤ 4000000) (q : Prog) (ds r3 l4 : List Decl) (i5 : Int) (hz : szT q.Threads ≤ 1000000) : ∀ (l pre : List (List Stmt)), q.Threads = pre ++ l →
  Ev (fun n => erase_Of_L1 n p a1 um q (ds, nm) r3 l4 i5 (pre.map (erL nm) ++ l) pre.length) ⟨l4, q.Threads.map (erL nm)⟩
 | [], pre, e => by
  have d : decide ((pre.length : Int) < ln q.Threads) = false := decide_eq_false (by show ¬ ((pre.length : Nat) : Int) < ((q.Threads.length : Nat) : Int); rw [e]; simp)
  refine Ev.step (Ev.of_eq (g := fun n => some ⟨l4, q.Threads.map (erL nm)⟩) (fun n => ?_) (Ev.ret _))
  simp only [erase_Of_L1, d, cond_false, List.append_nil]
  rw [e, List.append_nil]
 | t :: r, pre, e => by
  have hts := len_T q.Threads
  have hp : pre.length + 1 ≤ q.Threads.length := by rw [e]; simp
  have ht : szSl t ≤ szT q.Threads := by
   rw [e]
   have : ∀ a b : List (List Stmt), szT (a ++ b) = szT a + szT b := by
    intro a b
    induction a with
    | nil => simp [szT]
    | cons x r ih => rw [List.cons_append, szT, szT, ih]; omega
   rw [this, szT]; omega
  have d : decide ((pre.length : Int) < ln q.Threads) = true := decide_eq_true (by show ((pre.length : Nat) : Int) < ((q.Threads.length : Nat) : Int); omega)
  have lm : (pre.length : Int) = ((pre.map (erL nm)).length : Int) := by simp
  have g : idx (pre.map (erL nm) ++ t :: r) (pre.length : Int) = some t := by rw [lm]; exact ix_get _ _ _
  have se : ∀ y, (pre.map (erL nm) ++ t :: r).set ((pre.length : Int)).toNat y = (pre.map (erL nm) ++ [y]) ++ r := fun y => by rw [lm, set_mid]; simp
  have nx := thr_L1 p a1 nm um hn q ds r3 l4 i5 hz r (pre ++ [t]) (by rw [e]; exact ix_cons _ _ _)
  refine Ev.step (Ev.of_eq (g := fun n => (erase_block n t nm).bind fun r16 => erase_Of_L1 n p a1 um q (ds, nm) r3 l4 i5 ((pre.map (erL nm) ++ [r16]) ++ r) ((pre ++ [t]).length)) (fun n => ?_) (Ev.bind (eblock_ev nm hn t (by omega)) (by simpa using nx)))
  simp only [erase_Of_L1, d, g, cond_true, Option.bind_some, se]
  rw [ix_wr pre t (by omega)]
theorem Of_ev (D : List Decl) (ts : List (List Stmt)) (nm um : List ByteArray) (hn : nm.length ≤ 4000000) (hu : um.length ≤ 4000000) (hD : D.length ≤ 900000) (hz : szT ts ≤ 1000000) : Ev (fun n => erase_Of n ⟨D, ts⟩ nm um) (erP nm um ⟨D, ts⟩) := by
 refine Ev.of_eq (g := fun n => (tree_Copy n ⟨D, ts⟩).bind fun r1 => (DeleteFunc_Decl_q_ferase_Of_1 n r1.Decls nm).bind fun r2 => erase_Of_L0 n ⟨D, ts⟩ nm um r1 r2 r2.1 r2.1 0) (fun n => by simp only [erase_Of, Clip_Decl_q, Option.bind_some]) (Ev.bind (Copy_ev D ts (by omega) hz) (Ev.bind (Del_ev D nm hn hD) ?_))
 have hf : (D.filter (kp nm)).length ≤ 900000 := Nat.le_trans (List.length_filter_le _ _) hD
 exact up_L0 ⟨D, ts⟩ nm um hu ⟨D, ts⟩ (D.filter (kp nm), nm) (D.filter (kp nm)) hf (fun l => ⟨l, ts.map (erL nm)⟩) (fun l i _ => thr_L1 ⟨D, ts⟩ nm nm um hn ⟨D, ts⟩ (D.filter (kp nm)) (D.filter (kp nm)) l i hz ts [] rfl) (D.filter (kp nm)) [] (by simp)
end Go.Su.Ytfmgnboplbgniaa
namespace Go.Su.Ytfmgnboplbgniaa
open Go.Mx Go.Proofs
set_option linter.unusedVariables false
set_option linter.unusedSimpArgs false
set_option maxHeartbeats 4000000
theorem sroom_of {a b : ByteArray} (h : a.size + b.size ≤ 9223372036854775807) : sroom a b = true := by
 unfold sroom
 have : ¬ (((a.size + b.size : Nat) : Int) > IntKind.i64.max) := by
  have e : IntKind.i64.max = 9223372036854775807 := rfl
  rw [e]; omega
 rw [decide_eq_false this]; rfl
theorem size_app (a b : ByteArray) : (a ++ b).size = a.size + b.size := ByteArray.size_append
theorem digits_ev (k : Int) (h0 : 0 ≤ k) (h1 : k ≤ 9) : ∃ w, Ev (fun n => ref1_Digits n k) w ∧ w.size ≤ 1 := by
 have d : decide (k < 10) = true := decide_eq_true (by omega)
 exact ⟨_, Ev.step (Ev.of_eq (g := fun n => some (b2s [IntKind.u8.wrap (wr (48 + k))])) (fun n => by simp only [ref1_Digits, d, cond_true]) (Ev.ret _)), Nat.le_of_eq rfl⟩
theorem level_ev (k : Int) : ∃ r, (∀ n, ref1_level n k = some r) ∧ (4 ≤ k → k ≤ 10 → 1 ≤ r ∧ r ≤ 3) ∧ 0 ≤ r ∧ r ≤ 5 := by
 by_cases h : 1 ≤ k ∧ k ≤ 10
 ·have : k = 1 ∨ k = 2 ∨ k = 3 ∨ k = 4 ∨ k = 5 ∨ k = 6 ∨ k = 7 ∨ k = 8 ∨ k = 9 ∨ k = 10 := by omega
  rcases this with rfl | rfl | rfl | rfl | rfl | rfl | rfl | rfl | rfl | rfl
  ·exact ⟨5, fun n => rfl, by omega, by omega, by omega⟩
  ·exact ⟨5, fun n => rfl, by omega, by omega, by omega⟩
  ·exact ⟨4, fun n => rfl, by omega, by omega, by omega⟩
  ·exact ⟨2, fun n => rfl, by omega, by omega, by omega⟩
  ·exact ⟨2, fun n => rfl, by omega, by omega, by omega⟩
  ·exact ⟨3, fun n => rfl, by omega, by omega, by omega⟩
  ·exact ⟨3, fun n => rfl, by omega, by omega, by omega⟩
  ·exact ⟨3, fun n => rfl, by omega, by omega, by omega⟩
  ·exact ⟨1, fun n => rfl, by omega, by omega, by omega⟩
  ·exact ⟨1, fun n => rfl, by omega, by omega, by omega⟩
 ·have b : ∀ c : Int, 1 ≤ c → c ≤ 10 → (k == c) = false := fun c h1 h2 => by simp; omega
  refine ⟨0, fun n => ?_, by omega, by omega, by omega⟩
  simp only [ref1_level, jn, b 1 (by omega) (by omega), b 2 (by omega) (by omega), b 3 (by omega) (by omega), b 4 (by omega) (by omega), b 5 (by omega) (by omega), b 6 (by omega) (by omega), b 7 (by omega) (by omega), b 8 (by omega) (by omega), b 9 (by omega) (by omega), b 10 (by omega) (by omega), cond_false]
theorem sign_w (k : Int) : ∃ w, (∀ n, ref1_sign n k = some w) ∧ w.size ≤ 2 := by
 unfold ref1_sign
 cases (k == 4) with
 | true => exact ⟨_, fun _ => rfl, by decide⟩
 | false =>
 cases (k == 5) with
 | true => exact ⟨_, fun _ => rfl, by decide⟩
 | false =>
 cases (k == 6) with
 | true => exact ⟨_, fun _ => rfl, by decide⟩
 | false =>
 cases (k == 7) with
 | true => exact ⟨_, fun _ => rfl, by decide⟩
 | false =>
 cases (k == 8) with
 | true => exact ⟨_, fun _ => rfl, by decide⟩
 | false =>
 cases (k == 9) with
 | true => exact ⟨_, fun _ => rfl, by decide⟩
 | false => exact ⟨_, fun _ => rfl, by decide⟩
theorem show_ev : ∀ (d : Nat) (e : Expr), okE d e → szE e ≤ 1000000 → (∃ w, Ev (fun n => ref1_show n e) w ∧ w.size ≤ 20 * szE e) ∧ ∀ low, ∃ w, Ev (fun n => ref1_side n e low) w ∧ w.size ≤ 20 * szE e + 2 := by
 intro d
 induction d with
 | zero => intro e h; exact h.elim
 | succ d ih =>
  intro e h hz
  have hs : ∃ w, Ev (fun n => ref1_show n e) w ∧ w.size ≤ 20 * szE e := by
   obtain ⟨k, m, w, l⟩ := e
   obtain ⟨lv, hlv, hlv2, lv0, lv5⟩ := level_ev k
   rcases h with ⟨h1, h2, h3, h4, h5⟩ | ⟨h1, h2, h3, h5⟩ | ⟨h1, h2, h3, x, h5, h6⟩ | ⟨h1, h1', h2, h3, x, y, h5, h6, h7⟩ <;> simp only at h1 h2 h3 h5 <;> subst h5
   ·subst h1
    obtain ⟨w, k1, k2⟩ := digits_ev m h2 (by omega)
    refine ⟨w, Ev.step (Ev.of_eq (g := fun n => (ref1_Digits n m).bind fun r4 => some r4) (fun n => ?_) (Ev.bind k1 (Ev.ret _))), by rw [szE]; omega⟩
    simp only [ref1_show, hlv, Option.bind_some, jn, decide_eq_true (show m ≥ 0 from h2)]; rfl
   ·subst h1
    refine ⟨w, Ev.step (Ev.of_eq (g := fun n => some w) (fun n => ?_) (Ev.ret _)), ?_⟩
    ·simp only [ref1_show, hlv, Option.bind_some, jn]; rfl
    ·have : w.size ≤ 1 := by
      simp only [List.mem_cons, List.not_mem_nil, or_false] at h3
      rcases h3 with rfl | rfl | rfl | rfl | rfl <;> decide
     rw [szE]; omega
   ·subst h1
    rw [szE, szEl, szEl] at hz ⊢
    obtain ⟨w', k1, k2⟩ := (ih x h6 (by omega)).2 4
    have hr : sroom x_2d w' = true := sroom_of (by have : x_2d.size = 1 := rfl; omega)
    refine ⟨x_2d ++ w', Ev.step (Ev.of_eq (g := fun n => (ref1_side n x 4).bind fun r8 => bif sroom x_2d r8 then some (x_2d ++ r8) else none) (fun n => ?_) (Ev.bind k1 ?_)), ?_⟩
    ·simp only [ref1_show, hlv, Option.bind_some, jn]; rfl
    ·simp only [hr, cond_true]; exact Ev.ret _
    ·rw [size_app]; have : x_2d.size = 1 := rfl; omega
   ·rw [szE, szEl, szEl, szEl] at hz ⊢
    obtain ⟨q1, q2⟩ := hlv2 h1 h1'
    have b1 : (k == 1) = false := by simp; omega
    have b2 : (k == 2) = false := by simp; omega
    have b3 : (k == 3) = false := by simp; omega
    obtain ⟨wl, k1, k2⟩ := (ih x h6 (by omega)).2 (bif (lv == 1) then 2 else lv)
    obtain ⟨wr', l1, l2⟩ := (ih y h7 (by omega)).2 (wr (lv + 1))
    obtain ⟨ws, s1, s2⟩ := sign_w k
    have z1 : x_20.size = 1 := rfl
    have r1 : sroom wl x_20 = true := sroom_of (by omega)
    have r2 : sroom (wl ++ x_20) ws = true := sroom_of (by rw [size_app]; omega)
    have r3 : sroom ((wl ++ x_20) ++ ws) x_20 = true := sroom_of (by rw [size_app, size_app]; omega)
    have r4 : sroom (((wl ++ x_20) ++ ws) ++ x_20) wr' = true := sroom_of (by rw [size_app, size_app, size_app]; omega)
    have i0 : idx [x, y] 0 = some x := rfl
    have i1 : idx [x, y] 1 = some y := rfl
    have l2' : (ln [x, y] == 2) = true := rfl
    refine ⟨(((wl ++ x_20) ++ ws) ++ x_20) ++ wr', Ev.step (Ev.of_eq (g := fun n => (ref1_side n x (bif (lv == 1) then 2 else lv)).bind fun r15 => bif sroom r15 x_20 then bif sroom (r15 ++ x_20) ws then bif sroom ((r15 ++ x_20) ++ ws) x_20 then (ref1_side n y (wr (lv + 1))).bind fun r21 =>
      bif sroom (((r15 ++ x_20) ++ ws) ++ x_20) r21 then some ((((r15 ++ x_20) ++ ws) ++ x_20) ++ r21) else none else none else none else none) (fun n => ?_) (Ev.bind k1 ?_)), ?_⟩
    ·have g1 : decide (lv ≥ 1) = true := decide_eq_true q1
     have g2 : decide (lv ≤ 3) = true := decide_eq_true q2
     cases hc : (lv == 1) <;> simp only [ref1_show, hlv, Option.bind_some, jn, b1, b2, b3, cond_false, cond_true, g1, g2, l2', hc, i0, i1, s1]
    ·simp only [r1, r2, r3, cond_true]
     refine Ev.bind l1 ?_
     simp only [r4, cond_true]; exact Ev.ret _
    ·simp only [size_app]; omega
  refine ⟨hs, fun low => ?_⟩
  obtain ⟨w, k1, k2⟩ := hs
  obtain ⟨lv, hlv, _⟩ := level_ev e.Kind
  by_cases hc : lv < low
  ·have z1 : x_28.size = 1 := rfl
   have z2 : x_29.size = 1 := rfl
   have r1 : sroom x_28 w = true := sroom_of (by omega)
   have r2 : sroom (x_28 ++ w) x_29 = true := sroom_of (by rw [size_app]; omega)
   refine ⟨(x_28 ++ w) ++ x_29, Ev.step (Ev.of_eq (g := fun n => (ref1_show n e).bind fun r2 => bif sroom x_28 r2 then bif sroom (x_28 ++ r2) x_29 then some ((x_28 ++ r2) ++ x_29) else none else none) (fun n => ?_) (Ev.bind k1 ?_)), by simp only [size_app]; omega⟩
   ·simp only [ref1_side, hlv, Option.bind_some, decide_eq_true hc, cond_true]
   ·simp only [r1, r2, cond_true]; exact Ev.ret _
  ·refine ⟨w, Ev.step (Ev.of_eq (g := fun n => (ref1_show n e).bind fun r5 => some r5) (fun n => ?_) (Ev.bind k1 (Ev.ret _))), by omega⟩
   simp only [ref1_side, hlv, Option.bind_some, decide_eq_false hc, cond_false]
theorem tabs_ev : ∀ m : Nat, m ≤ 100000 → ∃ w, Ev (fun n => ref1_tabs n (m : Int)) w ∧ w.size = m
 | 0, _ => ⟨b0, Ev.step (Ev.of_eq (g := fun n => some b0) (fun n => by simp only [ref1_tabs]; rfl) (Ev.ret _)), rfl⟩
 | m + 1, h => by
  obtain ⟨w, k1, k2⟩ := tabs_ev m (by omega)
  have d : decide (((m + 1 : Nat) : Int) ≤ 0) = false := decide_eq_false (by omega)
  have e : wr (((m + 1 : Nat) : Int) - 1) = (m : Int) := by rw [wr_of (by omega)]; omega
  have z : x_09.size = 1 := rfl
  have r : sroom x_09 w = true := sroom_of (by omega)
  refine ⟨x_09 ++ w, Ev.step (Ev.of_eq (g := fun n => (ref1_tabs n (m : Int)).bind fun r1 => bif sroom x_09 r1 then some (x_09 ++ r1) else none) (fun n => ?_) (Ev.bind k1 ?_)), by rw [size_app]; omega⟩
  ·simp only [ref1_tabs, d, cond_false, e]
  ·simp only [r, cond_true]; exact Ev.ret _
theorem lines_ev : (∀ s : Stmt, ∀ d m : Nat, okS d s → m + wt s ≤ 2000 → (∃ w, Ev (fun n => ref1_lines n s.Body ((m + 1 : Nat) : Int)) w ∧ w.size ≤ 1000 * wtl s.Body) ∧ ∃ w, Ev (fun n => ref1_lines n s.Else ((m + 1 : Nat) : Int)) w ∧ w.size ≤ 1000 * wtl s.Else) ∧
  ∀ l : List Stmt, ∀ (d m : Nat) (in_ : ByteArray) (pre : List Stmt) (acc : ByteArray), okSl d l → m + wtl l ≤ 2000 → in_.size = m → (pre ++ l).length ≤ 2000 → acc.size + 1000 * wtl l ≤ 100000000 → ∃ w, Ev (fun n => ref1_lines_L0 n (pre ++ l) (m : Int) in_ acc pre.length) w ∧ w.size ≤ acc.size + 1000 * wtl l := by
 have wlen : ∀ l : List Stmt, l.length ≤ wtl l := by
  intro l
  induction l with
  | nil => simp
  | cons s r ih => cases s; rw [List.length_cons, wtl, wt]; omega
 have blk : ∀ l : List Stmt, (∀ (d m : Nat) (in_ : ByteArray) (pre : List Stmt) (acc : ByteArray), okSl d l → m + wtl l ≤ 2000 → in_.size = m → (pre ++ l).length ≤ 2000 → acc.size + 1000 * wtl l ≤ 100000000 → ∃ w, Ev (fun n => ref1_lines_L0 n (pre ++ l) (m : Int) in_ acc pre.length) w ∧ w.size ≤ acc.size + 1000 * wtl l) →
   ∀ d m : Nat, okSl d l → m + wtl l ≤ 2000 → ∃ w, Ev (fun n => ref1_lines n l (m : Int)) w ∧ w.size ≤ 1000 * wtl l := by
  intro l ih d m h1 h2
  obtain ⟨t, k1, k2⟩ := tabs_ev m (by omega)
  obtain ⟨w, l1, l2⟩ := ih d m t [] b0 h1 h2 k2 (by have := wlen l; simp; omega) (by have : b0.size = 0 := rfl; omega)
  have z : b0.size = 0 := rfl
  exact ⟨w, Ev.step (Ev.of_eq (g := fun n => (ref1_tabs n (m : Int)).bind fun r1 => ref1_lines_L0 n l (m : Int) r1 b0 0) (fun n => by simp only [ref1_lines]) (Ev.bind k1 l1)), by omega⟩
 refine stmt_ind ?_ ?_ ?_
 ·intro k w v m e b l a ihb ihl d q h hq
  rw [okS] at h
  rw [wt] at hq
  exact ⟨blk b ihb _ (q + 1) h.2.2.2.1 (by omega), blk l ihl _ (q + 1) h.2.2.2.2 (by omega)⟩
 ·intro d m in_ pre acc _ _ _ _ _
  exact ⟨acc, Ev.step (Ev.of_eq (g := fun n => some acc) (fun n => by simp only [ref1_lines_L0, List.append_nil, ix_ge, cond_false]) (Ev.ret _)), by simp [wtl]⟩
 ·intro s r ihs ihr d m in_ pre acc h h2 h3 h4 h5
  rw [okSl] at h
  rw [wtl] at h2 h5
  have hp : pre.length + 1 ≤ 2000 := by simp at h4; omega
  have hsub := ihs d m h.1 (by omega)
  have hw := ix_wr pre s (by omega)
  have hws : 10 ≤ wt s ∧ wt s = 10 + 2 * (wtl s.Body + wtl s.Else) := by cases s; rw [wt]; simp
  obtain ⟨⟨wb, hb1, hb2⟩, wl, hl1, hl2⟩ := hsub
  have zn : x_0a.size = 1 := rfl
  obtain ⟨FF, hFF⟩ : ∃ FF : Nat → ByteArray → Option ByteArray, ∀ n line, FF n line = bif sroom acc in_ then bif sroom (acc ++ in_) line then bif sroom ((acc ++ in_) ++ line) x_0a then ref1_lines_L0 n (pre ++ s :: r) (m : Int) in_ (((acc ++ in_) ++ line) ++ x_0a) (wr ((pre.length : Int) + 1)) else none else none else none := ⟨_, fun _ _ => rfl⟩

  have fin : ∀ line : ByteArray, line.size ≤ 1000 * (wtl s.Body + wtl s.Else) + 2 * m + 1000 → ∃ w, Ev (fun n => FF n line) w ∧ w.size ≤ acc.size + 1000 * (wt s + wtl r) := by
   intro line hline
   have r1 : sroom acc in_ = true := sroom_of (by omega)
   have r2 : sroom (acc ++ in_) line = true := sroom_of (by rw [size_app]; omega)
   have r3 : sroom ((acc ++ in_) ++ line) x_0a = true := sroom_of (by rw [size_app, size_app]; omega)
   obtain ⟨w, k1, k2⟩ := ihr d m in_ (pre ++ [s]) (((acc ++ in_) ++ line) ++ x_0a) h.2 (by omega) h3 (by rw [← ix_cons]; exact h4) (by simp only [size_app]; omega)
   refine ⟨w, ?_, by simp only [size_app] at k2; omega⟩
   simp only [hFF, r1, r2, r3, cond_true, hw]
   rw [ix_cons]; exact k1
  rw [wtl]
  have nm : ∀ w ∈ [k_x, k_y, k_z, k_a, k_t], w.size ≤ 1 := by
   intro w hw
   simp only [List.mem_cons, List.not_mem_nil, or_false] at hw
   rcases hw with rfl | rfl | rfl | rfl | rfl <;> decide
  have nc : ∀ w ∈ [k_c, k_d], w.size ≤ 1 := by
   intro w hw
   simp only [List.mem_cons, List.not_mem_nil, or_false] at hw
   rcases hw with rfl | rfl <;> decide
  have nl : ∀ w ∈ [k_l, k_k], w.size ≤ 1 := by
   intro w hw
   simp only [List.mem_cons, List.not_mem_nil, or_false] at hw
   rcases hw with rfl | rfl <;> decide
  have zm : k_m.size = 1 := rfl
  have z20 : x_20.size = 1 := rfl
  have z7d : x_7d.size = 1 := rfl
  have ze : x_203d20.size = 3 := rfl
  have zlk : x_6c6f636b20.size = 5 := rfl
  have zul : x_756e6c6f636b20.size = 7 := rfl
  have zsd : x_73656e6420.size = 5 := rfl
  have zrc : x_7265637620.size = 5 := rfl
  have zpr : x_7072696e7420.size = 6 := rfl
  have zgo : x_676f746f20.size = 5 := rfl
  have zlb : x_6c6162656c20.size = 6 := rfl
  have zif : x_696620.size = 3 := rfl
  have zop : x_207b0a.size = 3 := rfl
  have zel : x_20656c7365207b0a.size = 8 := rfl
  have zrp : x_72657065617420.size = 7 := rfl
  obtain ⟨k, w, v, mm, e, b, l, a⟩ := s
  obtain ⟨hH, _, hzE, _, _⟩ := (show okS d ⟨k, w, v, mm, e, b, l, a⟩ from h.1)
  simp only at hb1 hb2 hl1 hl2 fin hws
  have lift : ∀ (G : Nat → Option ByteArray), (∃ w, Ev G w ∧ w.size ≤ acc.size + 1000 * (wt ⟨k, w, v, mm, e, b, l, a⟩ + wtl r)) → (∀ n, ref1_lines_L0 (n + 1) (pre ++ ⟨k, w, v, mm, e, b, l, a⟩ :: r) (m : Int) in_ acc pre.length = G n) → ∃ w', Ev (fun n => ref1_lines_L0 n (pre ++ ⟨k, w, v, mm, e, b, l, a⟩ :: r) (m : Int) in_ acc pre.length) w' ∧ w'.size ≤ acc.size + 1000 * (wt ⟨k, w, v, mm, e, b, l, a⟩ + wtl r) :=
   fun G ⟨w', k1, k2⟩ hG => ⟨w', Ev.step (Ev.of_eq hG k1), k2⟩
  cases hH
  case assign =>
   have he : okE 4 e := by assumption
   have hw' : w ∈ [k_x, k_y, k_z, k_a, k_t] := by assumption
   obtain ⟨⟨t, t1, t2⟩, _⟩ := show_ev 4 e he (by omega)
   have := nm w hw'
   obtain ⟨w', f1, f2⟩ := fin ((w ++ x_203d20) ++ t) (by simp only [size_app]; omega)
   refine lift (fun n => (ref1_show n e).bind fun r9 => bif sroom (w ++ x_203d20) r9 then FF n ((w ++ x_203d20) ++ r9) else none) ⟨w', Ev.bind t1 ?_, f2⟩ fun n => ?_
   ·simp only [show sroom (w ++ x_203d20) t = true from sroom_of (by simp only [size_app]; omega), cond_true]; exact f1
   ·simp only [ref1_lines_L0, ix_lt, cond_true, ix_get, Option.bind_some, jn, show sroom w x_203d20 = true from sroom_of (by omega), hFF]; try rfl
  case lock =>
   obtain ⟨w', f1, f2⟩ := fin (x_6c6f636b20 ++ k_m) (by simp only [size_app]; omega)
   refine lift (fun n => FF n (x_6c6f636b20 ++ k_m)) ⟨w', f1, f2⟩ fun n => ?_
   simp only [ref1_lines_L0, ix_lt, cond_true, ix_get, Option.bind_some, jn, show sroom x_6c6f636b20 k_m = true from sroom_of (by omega), hFF]; try rfl
  case unlock =>
   obtain ⟨w', f1, f2⟩ := fin (x_756e6c6f636b20 ++ k_m) (by simp only [size_app]; omega)
   refine lift (fun n => FF n (x_756e6c6f636b20 ++ k_m)) ⟨w', f1, f2⟩ fun n => ?_
   simp only [ref1_lines_L0, ix_lt, cond_true, ix_get, Option.bind_some, jn, show sroom x_756e6c6f636b20 k_m = true from sroom_of (by omega), hFF]; try rfl
  case send =>
   have he : okE 4 e := by assumption
   have hw' : w ∈ [k_c, k_d] := by assumption
   obtain ⟨⟨t, t1, t2⟩, _⟩ := show_ev 4 e he (by omega)
   have := nc w hw'
   obtain ⟨w', f1, f2⟩ := fin (((x_73656e6420 ++ w) ++ x_20) ++ t) (by simp only [size_app]; omega)
   refine lift (fun n => (ref1_show n e).bind fun r9 => bif sroom ((x_73656e6420 ++ w) ++ x_20) r9 then FF n (((x_73656e6420 ++ w) ++ x_20) ++ r9) else none) ⟨w', Ev.bind t1 ?_, f2⟩ fun n => ?_
   ·simp only [show sroom ((x_73656e6420 ++ w) ++ x_20) t = true from sroom_of (by simp only [size_app]; omega), cond_true]; exact f1
   ·simp only [ref1_lines_L0, ix_lt, cond_true, ix_get, Option.bind_some, jn, show sroom x_73656e6420 w = true from sroom_of (by omega), show sroom (x_73656e6420 ++ w) x_20 = true from sroom_of (by simp only [size_app]; omega), hFF]; try rfl
  case recv =>
   have hw' : w ∈ [k_c, k_d] := by assumption
   have hv : v ∈ [k_x, k_y, k_z, k_a, k_t] := by assumption
   have := nc w hw'
   have := nm v hv
   obtain ⟨w', f1, f2⟩ := fin (((x_7265637620 ++ w) ++ x_20) ++ v) (by simp only [size_app]; omega)
   refine lift (fun n => FF n (((x_7265637620 ++ w) ++ x_20) ++ v)) ⟨w', f1, f2⟩ fun n => ?_
   simp only [ref1_lines_L0, ix_lt, cond_true, ix_get, Option.bind_some, jn, show sroom x_7265637620 w = true from sroom_of (by omega), show sroom (x_7265637620 ++ w) x_20 = true from sroom_of (by simp only [size_app]; omega), show sroom ((x_7265637620 ++ w) ++ x_20) v = true from sroom_of (by simp only [size_app]; omega), hFF]; try rfl
  case print =>
   have he : okE 4 e := by assumption
   obtain ⟨⟨t, t1, t2⟩, _⟩ := show_ev 4 e he (by omega)
   obtain ⟨w', f1, f2⟩ := fin (x_7072696e7420 ++ t) (by simp only [size_app]; omega)
   refine lift (fun n => (ref1_show n e).bind fun r9 => bif sroom x_7072696e7420 r9 then FF n (x_7072696e7420 ++ r9) else none) ⟨w', Ev.bind t1 ?_, f2⟩ fun n => ?_
   ·simp only [show sroom x_7072696e7420 t = true from sroom_of (by omega), cond_true]; exact f1
   ·simp only [ref1_lines_L0, ix_lt, cond_true, ix_get, Option.bind_some, jn, hFF]; try rfl
  case goto =>
   have hw' : w ∈ [k_l, k_k] := by assumption
   have := nl w hw'
   obtain ⟨w', f1, f2⟩ := fin (x_676f746f20 ++ w) (by simp only [size_app]; omega)
   refine lift (fun n => FF n (x_676f746f20 ++ w)) ⟨w', f1, f2⟩ fun n => ?_
   simp only [ref1_lines_L0, ix_lt, cond_true, ix_get, Option.bind_some, jn, show sroom x_676f746f20 w = true from sroom_of (by omega), hFF]; try rfl
  case label =>
   have hw' : w ∈ [k_l, k_k] := by assumption
   have := nl w hw'
   obtain ⟨w', f1, f2⟩ := fin (x_6c6162656c20 ++ w) (by simp only [size_app]; omega)
   refine lift (fun n => FF n (x_6c6162656c20 ++ w)) ⟨w', f1, f2⟩ fun n => ?_
   simp only [ref1_lines_L0, ix_lt, cond_true, ix_get, Option.bind_some, jn, show sroom x_6c6162656c20 w = true from sroom_of (by omega), hFF]; try rfl
  case rep =>
   have q0 : 0 ≤ mm := by assumption
   have q1 : mm ≤ 2 := by assumption
   obtain ⟨t, t1, t2⟩ := digits_ev mm q0 (by omega)
   have hm1 : wr ((m : Int) + 1) = ((m + 1 : Nat) : Int) := by rw [wr_of (by omega)]; rfl
   obtain ⟨w', f1, f2⟩ := fin (((((x_72657065617420 ++ t) ++ x_207b0a) ++ wb) ++ in_) ++ x_7d) (by simp only [size_app]; omega)
   refine lift (fun n => (ref1_Digits n mm).bind fun r36 => bif sroom x_72657065617420 r36 then bif sroom (x_72657065617420 ++ r36) x_207b0a then (ref1_lines n b ((m + 1 : Nat) : Int)).bind fun r39 => bif sroom ((x_72657065617420 ++ r36) ++ x_207b0a) r39 then bif sroom (((x_72657065617420 ++ r36) ++ x_207b0a) ++ r39) in_ then bif sroom ((((x_72657065617420 ++ r36) ++ x_207b0a) ++ r39) ++ in_) x_7d then
    FF n (((((x_72657065617420 ++ r36) ++ x_207b0a) ++ r39) ++ in_) ++ x_7d) else none else none else none else none else none) ⟨w', Ev.bind t1 ?_, f2⟩ fun n => ?_
   ·simp only [show sroom x_72657065617420 t = true from sroom_of (by omega), show sroom (x_72657065617420 ++ t) x_207b0a = true from sroom_of (by simp only [size_app]; omega), cond_true]
    refine Ev.bind hb1 ?_
    simp only [show sroom ((x_72657065617420 ++ t) ++ x_207b0a) wb = true from sroom_of (by simp only [size_app]; omega), show sroom (((x_72657065617420 ++ t) ++ x_207b0a) ++ wb) in_ = true from sroom_of (by simp only [size_app]; omega), show sroom ((((x_72657065617420 ++ t) ++ x_207b0a) ++ wb) ++ in_) x_7d = true from sroom_of (by simp only [size_app]; omega), cond_true]
    exact f1
   ·simp only [ref1_lines_L0, ix_lt, cond_true, ix_get, Option.bind_some, jn, hm1, decide_eq_true (show mm ≥ 0 from q0), hFF]; try rfl
  case cond =>
   have he : okE 4 e := by assumption
   obtain ⟨⟨t, t1, t2⟩, _⟩ := show_ev 4 e he (by omega)
   have hm1 : wr ((m : Int) + 1) = ((m + 1 : Nat) : Int) := by rw [wr_of (by omega)]; rfl
   have s1 : sroom x_696620 t = true := sroom_of (by omega)
   have s2 : sroom (x_696620 ++ t) x_207b0a = true := sroom_of (by simp only [size_app]; omega)
   have s3 : sroom ((x_696620 ++ t) ++ x_207b0a) wb = true := sroom_of (by simp only [size_app]; omega)
   have s4 : sroom (((x_696620 ++ t) ++ x_207b0a) ++ wb) in_ = true := sroom_of (by simp only [size_app]; omega)
   have s5 : sroom ((((x_696620 ++ t) ++ x_207b0a) ++ wb) ++ in_) x_7d = true := sroom_of (by simp only [size_app]; omega)
   cases hE : decide (ln l > 0)
   ·obtain ⟨w', f1, f2⟩ := fin (((((x_696620 ++ t) ++ x_207b0a) ++ wb) ++ in_) ++ x_7d) (by simp only [size_app]; omega)
    refine lift (fun n => (ref1_show n e).bind fun r24 => bif sroom x_696620 r24 then bif sroom (x_696620 ++ r24) x_207b0a then (ref1_lines n b ((m + 1 : Nat) : Int)).bind fun r27 => bif sroom ((x_696620 ++ r24) ++ x_207b0a) r27 then bif sroom (((x_696620 ++ r24) ++ x_207b0a) ++ r27) in_ then bif sroom ((((x_696620 ++ r24) ++ x_207b0a) ++ r27) ++ in_) x_7d then
     FF n (((((x_696620 ++ r24) ++ x_207b0a) ++ r27) ++ in_) ++ x_7d) else none else none else none else none else none) ⟨w', Ev.bind t1 ?_, f2⟩ fun n => ?_
    ·simp only [s1, s2, cond_true]
     refine Ev.bind hb1 ?_
     simp only [s3, s4, s5, cond_true]
     exact f1
    ·simp only [ref1_lines_L0, ix_lt, cond_true, ix_get, Option.bind_some, jn, hm1, hE, cond_false, hFF]; try rfl
   ·have s6 : sroom (((((x_696620 ++ t) ++ x_207b0a) ++ wb) ++ in_) ++ x_7d) x_20656c7365207b0a = true := sroom_of (by simp only [size_app]; omega)
    have s7 : sroom ((((((x_696620 ++ t) ++ x_207b0a) ++ wb) ++ in_) ++ x_7d) ++ x_20656c7365207b0a) wl = true := sroom_of (by simp only [size_app]; omega)
    have s8 : sroom (((((((x_696620 ++ t) ++ x_207b0a) ++ wb) ++ in_) ++ x_7d) ++ x_20656c7365207b0a) ++ wl) in_ = true := sroom_of (by simp only [size_app]; omega)
    have s9 : sroom ((((((((x_696620 ++ t) ++ x_207b0a) ++ wb) ++ in_) ++ x_7d) ++ x_20656c7365207b0a) ++ wl) ++ in_) x_7d = true := sroom_of (by simp only [size_app]; omega)
    obtain ⟨w', f1, f2⟩ := fin (((((((((x_696620 ++ t) ++ x_207b0a) ++ wb) ++ in_) ++ x_7d) ++ x_20656c7365207b0a) ++ wl) ++ in_) ++ x_7d) (by simp only [size_app]; omega)
    refine lift (fun n => (ref1_show n e).bind fun r24 => bif sroom x_696620 r24 then bif sroom (x_696620 ++ r24) x_207b0a then (ref1_lines n b ((m + 1 : Nat) : Int)).bind fun r27 => bif sroom ((x_696620 ++ r24) ++ x_207b0a) r27 then bif sroom (((x_696620 ++ r24) ++ x_207b0a) ++ r27) in_ then bif sroom ((((x_696620 ++ r24) ++ x_207b0a) ++ r27) ++ in_) x_7d then
     bif sroom (((((x_696620 ++ r24) ++ x_207b0a) ++ r27) ++ in_) ++ x_7d) x_20656c7365207b0a then (ref1_lines n l ((m + 1 : Nat) : Int)).bind fun r32 => bif sroom ((((((x_696620 ++ r24) ++ x_207b0a) ++ r27) ++ in_) ++ x_7d) ++ x_20656c7365207b0a) r32 then bif sroom (((((((x_696620 ++ r24) ++ x_207b0a) ++ r27) ++ in_) ++ x_7d) ++ x_20656c7365207b0a) ++ r32) in_ then bif sroom ((((((((x_696620 ++ r24) ++ x_207b0a) ++ r27) ++ in_) ++ x_7d) ++ x_20656c7365207b0a) ++ r32) ++ in_) x_7d then
     FF n (((((((((x_696620 ++ r24) ++ x_207b0a) ++ r27) ++ in_) ++ x_7d) ++ x_20656c7365207b0a) ++ r32) ++ in_) ++ x_7d) else none else none else none else none else none else none else none else none else none) ⟨w', Ev.bind t1 ?_, f2⟩ fun n => ?_
    ·simp only [s1, s2, cond_true]
     refine Ev.bind hb1 ?_
     simp only [s3, s4, s5, s6, cond_true]
     refine Ev.bind hl1 ?_
     simp only [s7, s8, s9, cond_true]
     exact f1
    ·simp only [ref1_lines_L0, ix_lt, cond_true, ix_get, Option.bind_some, jn, hm1, hE, hFF]; try rfl
theorem linesB_ev (l : List Stmt) (d m : Nat) (h : okSl d l) (hw : m + wtl l ≤ 2000) : ∃ w, Ev (fun n => ref1_lines n l (m : Int)) w ∧ w.size ≤ 1000 * wtl l := by
 have wlen : ∀ l : List Stmt, l.length ≤ wtl l := by
  intro l
  induction l with
  | nil => simp
  | cons s r ih => cases s; rw [List.length_cons, wtl, wt]; omega
 obtain ⟨t, k1, k2⟩ := tabs_ev m (by omega)
 have z : b0.size = 0 := rfl
 obtain ⟨w, l1, l2⟩ := lines_ev.2 l d m t [] b0 h hw k2 (by have := wlen l; simp; omega) (by omega)
 exact ⟨w, Ev.step (Ev.of_eq (g := fun n => (ref1_tabs n (m : Int)).bind fun r1 => ref1_lines_L0 n l (m : Int) r1 b0 0) (fun n => by simp only [ref1_lines]) (Ev.bind k1 l1)), by omega⟩
def okSD (d : Decl) : Prop := 1 ≤ d.Kind ∧ d.Kind ≤ 6 ∧ 0 ≤ d.N ∧ d.N ≤ 9 ∧ d.Name.size ≤ 100
theorem Show_L1 (D : List Decl) (ts : List (List Stmt)) (w2 : ByteArray) (i3 : Int) (hts : ∀ t ∈ ts, ∃ d, okSl d t ∧ wtl t ≤ 1900) (hn : ts.length ≤ 100) : ∀ (l pre : List (List Stmt)) (acc : ByteArray), ts = pre ++ l → acc.size + 3000000 * l.length ≤ 1000000000000 → ∃ w, Ev (fun n => ref1_Show_L1 n ⟨D, ts⟩ w2 i3 acc pre.length) w
 | [], pre, acc, e, h => by
  rw [List.append_nil] at e
  have l1 : decide ((pre.length : Int) < ln ts) = false := by rw [e]; exact ix_ge _
  exact ⟨acc, Ev.step (Ev.of_eq (g := fun n => some acc) (fun n => by simp only [ref1_Show_L1, l1, cond_false]) (Ev.ret _))⟩
 | t :: r, pre, acc, e, h => by
  have hp : pre.length + 1 ≤ 100 := by have := congrArg List.length e; simp at this; omega
  have l1 : decide ((pre.length : Int) < ln ts) = true := by rw [e]; exact ix_lt _ _ _
  have l2 : idx ts (pre.length : Int) = some t := by rw [e]; exact ix_get _ _ _
  obtain ⟨d, h1, h2⟩ := hts t (by rw [e]; simp)
  obtain ⟨wl, k1, k2⟩ := linesB_ev t d 1 h1 (by omega)
  rw [List.length_cons] at h
  have z1 : x_676f207b0a.size = 5 := rfl
  have z2 : x_7d0a.size = 2 := rfl
  have r1 : sroom acc x_676f207b0a = true := sroom_of (by omega)
  have r2 : sroom (acc ++ x_676f207b0a) wl = true := sroom_of (by rw [size_app]; omega)
  have r3 : sroom ((acc ++ x_676f207b0a) ++ wl) x_7d0a = true := sroom_of (by rw [size_app, size_app]; omega)
  obtain ⟨w, m1⟩ := Show_L1 D ts w2 i3 hts hn r (pre ++ [t]) (((acc ++ x_676f207b0a) ++ wl) ++ x_7d0a) (by rw [e]; exact ix_cons _ _ _) (by simp only [size_app]; omega)
  refine ⟨w, Ev.step (Ev.of_eq (g := fun n => (ref1_lines n t ((1 : Nat) : Int)).bind fun r21 => bif sroom (acc ++ x_676f207b0a) r21 then bif sroom ((acc ++ x_676f207b0a) ++ r21) x_7d0a then ref1_Show_L1 n ⟨D, ts⟩ w2 i3 (((acc ++ x_676f207b0a) ++ r21) ++ x_7d0a) ((pre ++ [t]).length) else none else none) (fun n => ?_) (Ev.bind k1 ?_))⟩
  ·simp only [ref1_Show_L1, l1, l2, r1, cond_true, Option.bind_some]
   rw [ix_wr pre t (by omega)]; rfl
  ·simp only [r2, r3, cond_true]; exact m1
theorem Show_L0 (D : List Decl) (ts : List (List Stmt)) (hD : ∀ d ∈ D, okSD d) (hDn : D.length ≤ 1000) (hts : ∀ t ∈ ts, ∃ d, okSl d t ∧ wtl t ≤ 1900) (hn : ts.length ≤ 100) : ∀ (l pre : List Decl) (acc : ByteArray), D = pre ++ l → acc.size + 1000 * l.length ≤ 100000000 → ∃ w, Ev (fun n => ref1_Show_L0 n ⟨D, ts⟩ acc pre.length) w
 | [], pre, acc, e, h => by
  rw [List.append_nil] at e
  have l1 : decide ((pre.length : Int) < ln D) = false := by rw [e]; exact ix_ge _
  obtain ⟨w, m1⟩ := Show_L1 D ts acc (pre.length : Int) hts hn ts [] acc rfl (by simp at h; omega)
  exact ⟨w, Ev.step (Ev.of_eq (fun n => by simp only [ref1_Show_L0, l1, cond_false]; rfl) m1)⟩
 | t :: r, pre, acc, e, h => by
  have hp : pre.length + 1 ≤ 1000 := by have := congrArg List.length e; simp at this; omega
  have l1 : decide ((pre.length : Int) < ln D) = true := by rw [e]; exact ix_lt _ _ _
  have l2 : idx D (pre.length : Int) = some t := by rw [e]; exact ix_get _ _ _
  obtain ⟨a1, a2, a3, a4, a5⟩ := hD t (by rw [e]; simp)
  rw [List.length_cons] at h
  have hw := ix_wr pre t (by omega)
  obtain ⟨x7, hx7, z7⟩ : ∃ x7, idx [b0, k_var, k_wide, k_atomic, k_local, k_mutex, k_chan] t.Kind = some x7 ∧ x7.size ≤ 6 := by
   have : t.Kind = 1 ∨ t.Kind = 2 ∨ t.Kind = 3 ∨ t.Kind = 4 ∨ t.Kind = 5 ∨ t.Kind = 6 := by omega
   rcases this with h | h | h | h | h | h <;> rw [h] <;> exact ⟨_, rfl, by decide⟩
  have d1 : decide (t.Kind < 1) = false := decide_eq_false (by omega)
  have d2 : decide (t.Kind > 6) = false := decide_eq_false (by omega)
  have z20 : x_20.size = 1 := rfl
  have z0a : x_0a.size = 1 := rfl
  have r1 : sroom acc x7 = true := sroom_of (by omega)
  have r2 : sroom (acc ++ x7) x_20 = true := sroom_of (by rw [size_app]; omega)
  have r3 : sroom ((acc ++ x7) ++ x_20) t.Name = true := sroom_of (by rw [size_app, size_app]; omega)
  by_cases h6 : t.Kind = 6
  ·have e6 : (t.Kind == 6) = true := by simpa using h6
   have e7 : decide (t.N < 0) = false := decide_eq_false (by omega)
   obtain ⟨wd, k1, k2⟩ := digits_ev t.N a3 a4
   have r4 : sroom (((acc ++ x7) ++ x_20) ++ t.Name) x_20 = true := sroom_of (by simp only [size_app]; omega)
   have r5 : sroom ((((acc ++ x7) ++ x_20) ++ t.Name) ++ x_20) wd = true := sroom_of (by simp only [size_app]; omega)
   have r6 : sroom (((((acc ++ x7) ++ x_20) ++ t.Name) ++ x_20) ++ wd) x_0a = true := sroom_of (by simp only [size_app]; omega)
   obtain ⟨w, m1⟩ := Show_L0 D ts hD hDn hts hn r (pre ++ [t]) ((((((acc ++ x7) ++ x_20) ++ t.Name) ++ x_20) ++ wd) ++ x_0a) (by rw [e]; exact ix_cons _ _ _) (by simp only [size_app]; omega)
   refine ⟨w, Ev.step (Ev.of_eq (g := fun n => (ref1_Digits n t.N).bind fun r14 => bif sroom ((((acc ++ x7) ++ x_20) ++ t.Name) ++ x_20) r14 then bif sroom (((((acc ++ x7) ++ x_20) ++ t.Name) ++ x_20) ++ r14) x_0a then ref1_Show_L0 n ⟨D, ts⟩ ((((((acc ++ x7) ++ x_20) ++ t.Name) ++ x_20) ++ r14) ++ x_0a) ((pre ++ [t]).length) else none else none) (fun n => ?_) (Ev.bind k1 ?_))⟩
   ·simp only [ref1_Show_L0, l1, l2, jn, d1, d2, cond_true, cond_false, Option.bind_some, hx7, r1, r2, r3, e6, e7, r4, hw]
   ·simp only [r5, r6, cond_true]; exact m1
  ·have e6 : (t.Kind == 6) = false := by simpa using h6
   have r6 : sroom (((acc ++ x7) ++ x_20) ++ t.Name) x_0a = true := sroom_of (by simp only [size_app]; omega)
   obtain ⟨w, m1⟩ := Show_L0 D ts hD hDn hts hn r (pre ++ [t]) ((((acc ++ x7) ++ x_20) ++ t.Name) ++ x_0a) (by rw [e]; exact ix_cons _ _ _) (by simp only [size_app]; omega)
   refine ⟨w, Ev.step (Ev.of_eq (fun n => ?_) m1)⟩
   simp only [ref1_Show_L0, l1, l2, jn, d1, d2, cond_true, cond_false, Option.bind_some, hx7, r1, r2, r3, e6, r6, hw]
theorem Show_ev (D : List Decl) (ts : List (List Stmt)) (hD : ∀ d ∈ D, okSD d) (hDn : D.length ≤ 1000) (hts : ∀ t ∈ ts, ∃ d, okSl d t ∧ wtl t ≤ 1900) (hn : ts.length ≤ 100) : ∃ w, Ev (fun n => ref1_Show n ⟨D, ts⟩) w := by
 have z : b0.size = 0 := rfl
 obtain ⟨w, h⟩ := Show_L0 D ts hD hDn hts hn D [] b0 rfl (by omega)
 exact ⟨w, Ev.of_eq (fun n => by simp only [ref1_Show]; rfl) h⟩
theorem okSD_of {D : List Decl} (h : okDecls D) : (∀ d ∈ D, okSD d) ∧ D.length ≤ 1000 := by
 obtain ⟨k0, k1, r, hk, r0, r1, rfl⟩ := h
 refine ⟨fun d hd => ?_, by simp⟩
 have zx : k_x.size = 1 := rfl
 have zy : k_y.size = 1 := rfl
 have zz : k_z.size = 1 := rfl
 have za : k_a.size = 1 := rfl
 have zt : k_t.size = 1 := rfl
 have zm : k_m.size = 1 := rfl
 have zc : k_c.size = 1 := rfl
 have zd : k_d.size = 1 := rfl
 simp only [List.mem_cons, List.not_mem_nil, or_false] at hd
 rcases hd with rfl | rfl | rfl | rfl | rfl | rfl | rfl | rfl <;> refine ⟨?_, ?_, ?_, ?_, ?_⟩ <;> simp only <;> omega
end Go.Su.Ytfmgnboplbgniaa
