/-
  CostHolds: what its code computes is true.
-/
import Derived.Test.YtfmgnboplbgniaaZPlShow
import Derived.Test.YtfmgnboplbgniaaZPlCost
import Derived.KernelRfl
import Derived.Test.YtfmgnboplbgniaaZDx16
import Derived.Test.YtfmgnboplbgniaaZPlSome
import Derived.Test.YtfmgnboplbgniaaZRowT
namespace Go.Su.Ytfmgnboplbgniaa
open Go.Mx Go.Proofs
set_option linter.unusedVariables false
set_option linter.unusedSimpArgs false
set_option maxHeartbeats 4000000
theorem f2iN : ((List.range 3001).all fun k => f2i (FloatKind.f64.nearest (k : Nat)) == some (k : Int)) = true := by kernel_rfl
theorem f2i_of (k : Nat) (h : k ≤ 3000) : f2i (FloatKind.f64.nearest (k : Nat)) = some (k : Int) := by
 have := List.all_eq_true.1 f2iN k (List.mem_range.2 (by omega))
 simpa using this
theorem roomM (a b : Nat) (h : a + b ≤ 1000000) : room s_mark.i1.bytes a b = true := room_of (by
 have : s_mark.i1.bytes = 200 := rfl
 rw [this]; omega)
theorem roomI (a b : Nat) (h : a + b ≤ 1000000) : room s_int.i1.bytes a b = true := room_of (by
 have : s_int.i1.bytes = 8 := rfl
 rw [this]; omega)
theorem roomT (a b : Nat) (h : a + b ≤ 1000000) : room s_LStmt.i1.bytes a b = true := room_of (by
 have : s_LStmt.i1.bytes = 24 := rfl
 rw [this]; omega)
theorem szS_eq (s : Stmt) : szS s = 1 + szE s.E + (szSl s.Body + szSl s.Else) := by cases s; rw [szS]
theorem wt_eq (s : Stmt) : wt s = 10 + 2 * (wtl s.Body + wtl s.Else) := by cases s; rw [wt]
def MkA (x : Stmt) : Prop := ∃ k : Nat, k ≤ 3000 ∧ x.At.re = FloatKind.f64.nearest (k : Int)
def MkL (l : List Stmt) : Prop := ∀ x ∈ flat l, MkA x
theorem MkL_cons {s : Stmt} {r : List Stmt} : MkL (s :: r) ↔ MkA s ∧ MkL s.Body ∧ MkL s.Else ∧ MkL r := by
 unfold MkL
 simp only [flat, fl1_eq, List.mem_append, List.mem_cons]
 constructor
 ·intro h
  exact ⟨h s (by simp), fun x hx => h x (by simp [hx]), fun x hx => h x (by simp [hx]), fun x hx => h x (by simp [hx])⟩
 ·rintro ⟨h1, h2, h3, h4⟩ x hx
  rcases hx with (rfl | hx | hx) | hx
  ·exact h1
  ·exact h2 x hx
  ·exact h3 x hx
  ·exact h4 x hx
theorem MkL_nil : MkL [] := fun x hx => by simp [flat] at hx
theorem marked_all : (∀ s : Stmt, (∀ i : Nat, i + szSl s.Body ≤ 3000 → ∃ b' j, Ev (fun n => hand_marked n s.Body (i : Int)) (b', ((j : Nat) : Int)) ∧ MkL b' ∧ szSl b' = szSl s.Body ∧ j ≤ i + szSl s.Body) ∧
   ∀ i : Nat, i + szSl s.Else ≤ 3000 → ∃ b' j, Ev (fun n => hand_marked n s.Else (i : Int)) (b', ((j : Nat) : Int)) ∧ MkL b' ∧ szSl b' = szSl s.Else ∧ j ≤ i + szSl s.Else) ∧
  ∀ l : List Stmt, ∀ (a1 : Int) (pre acc : List Stmt) (i : Nat), i + szSl l ≤ 3000 → (pre ++ l).length ≤ 1000000 → acc.length + l.length ≤ 1000000 →
   ∃ l' j, Ev (fun n => hand_marked_L0 n (pre ++ l) a1 (i : Int) acc pre.length) (acc ++ l', ((j : Nat) : Int)) ∧ MkL l' ∧ szSl l' = szSl l ∧ j ≤ i + szSl l := by
 refine stmt_ind ?_ ?_ ?_
 ·intro k w v m e b l a hb hl
  constructor
  ·intro i hi
   have := len_Sl b
   simp only at hi ⊢
   obtain ⟨l', j, h1, h2⟩ := hb i [] [] i hi (by simp; omega) (by simp; omega)
   exact ⟨l', j, Ev.step (Ev.of_eq (fun n => by simp only [hand_marked]; rfl) h1), h2⟩
  ·intro i hi
   have := len_Sl l
   simp only at hi ⊢
   obtain ⟨l', j, h1, h2⟩ := hl i [] [] i hi (by simp; omega) (by simp; omega)
   exact ⟨l', j, Ev.step (Ev.of_eq (fun n => by simp only [hand_marked]; rfl) h1), h2⟩
 ·intro a1 pre acc i h1 h2 h3
  exact ⟨[], i, Ev.step (Ev.of_eq (g := fun n => some (acc, (i : Int))) (fun n => by simp only [hand_marked_L0, List.append_nil, ix_ge, cond_false]) (by simpa using Ev.ret _)), MkL_nil, rfl, by omega⟩
 ·intro x r ihx ihr a1 pre acc i h1 h2 h3
  rw [szSl] at h1
  have hx := szS_eq x
  have hp : pre.length + 1 ≤ 1000000 := by simp at h2; omega
  have ha : acc.length + 1 + r.length ≤ 1000000 := by simp at h3; omega
  obtain ⟨b', j1, e1, m1, z1, c1⟩ := ihx.1 (i + 1) (by omega)
  obtain ⟨l', j2, e2, m2, z2, c2⟩ := ihx.2 j1 (by omega)
  have hw : wr ((i : Int) + 1) = ((i + 1 : Nat) : Int) := by rw [wr_of (by omega)]; rfl
  obtain ⟨r', j, e3, m3, z3, c3⟩ := ihr a1 (pre ++ [x]) (acc ++ [Stmt.mk x.Kind x.Name x.Other x.N x.E b' l' (⟨FloatKind.f64.nearest (i : Int), 0⟩ : Cx)]) j2 (by omega) (by rw [← ix_cons]; exact h2) (by simp; omega)
  refine ⟨Stmt.mk x.Kind x.Name x.Other x.N x.E b' l' (⟨FloatKind.f64.nearest (i : Int), 0⟩ : Cx) :: r', j, ?_, MkL_cons.2 ⟨⟨i, by omega, rfl⟩, m1, m2, m3⟩, by simp only [szSl, szS]; omega, by rw [szSl]; omega⟩
  refine Ev.step (Ev.of_eq (g := fun n => (hand_marked n x.Body ((i + 1 : Nat) : Int)).bind fun r6 => (hand_marked n x.Else r6.2).bind fun r8 =>
   bif room s_Stmt.i1.bytes acc.length [(Stmt.mk x.Kind x.Name x.Other x.N x.E r6.1 r8.1 (⟨FloatKind.f64.nearest (i : Int), 0⟩ : Cx))].length then
    hand_marked_L0 n ((pre ++ [x]) ++ r) a1 r8.2 (acc ++ [(Stmt.mk x.Kind x.Name x.Other x.N x.E r6.1 r8.1 (⟨FloatKind.f64.nearest (i : Int), 0⟩ : Cx))]) ((pre ++ [x]).length) else none) (fun n => ?_) (Ev.bind e1 (Ev.bind e2 (Ev.yes (room32 _ (by omega) _) (by simpa using e3)))))
  simp only [hand_marked_L0, ix_lt, cond_true, ix_get, Option.bind_some, hw]
  rw [ix_wr pre x (by omega), ← ix_cons]
theorem marked_ev (l : List Stmt) (i : Nat) (h : i + szSl l ≤ 3000) : ∃ l' j, Ev (fun n => hand_marked n l (i : Int)) (l', ((j : Nat) : Int)) ∧ MkL l' ∧ szSl l' = szSl l ∧ j ≤ i + szSl l := by
 have := len_Sl l
 obtain ⟨l', j, h1, h2⟩ := marked_all.2 l i [] [] i h (by simp; omega) (by simp; omega)
 exact ⟨l', j, Ev.step (Ev.of_eq (fun n => by simp only [hand_marked]; rfl) h1), h2⟩
theorem mark_L0 (D : List Decl) (ts : List (List Stmt)) : ∀ (l pre acc : List (List Stmt)) (i : Nat), ts = pre ++ l → i + szT l ≤ 3000 → ts.length ≤ 1000 → acc.length + l.length ≤ 1000 →
  ∃ l', Ev (fun n => hand_mark_L0 n ⟨D, ts⟩ (i : Int) acc pre.length) ⟨D, acc ++ l'⟩ ∧ (∀ t ∈ l', MkL t) ∧ szT l' = szT l ∧ l'.length = l.length
 | [], pre, acc, i, e, h, h2, h3 => by
  rw [List.append_nil] at e; subst e
  exact ⟨[], Ev.step (Ev.of_eq (g := fun n => some ⟨D, acc⟩) (fun n => by simp only [hand_mark_L0, ix_ge, cond_false]) (by simpa using Ev.ret _)), by simp, rfl, rfl⟩
 | t :: r, pre, acc, i, e, h, h2, h3 => by
  rw [szT] at h
  have hp : pre.length + 1 ≤ 1000 := by rw [e] at h2; simp at h2; omega
  have ha : acc.length + 1 + r.length ≤ 1000 := by simp at h3; omega
  obtain ⟨t', j, e1, m1, z1, c1⟩ := marked_ev t i (by omega)
  obtain ⟨r', e2, m2, z2, c2⟩ := mark_L0 D ts r (pre ++ [t]) (acc ++ [t']) j (by rw [e]; exact ix_cons _ _ _) (by omega) h2 (by simp; omega)
  refine ⟨t' :: r', ?_, ?_, by simp only [szT]; omega, by simp [c2]⟩
  ·subst e
   refine Ev.step (Ev.of_eq (g := fun n => (hand_marked n t (i : Int)).bind fun r5 => bif room s_LStmt.i1.bytes acc.length [r5.1].length then hand_mark_L0 n ⟨D, pre ++ t :: r⟩ r5.2 (acc ++ [r5.1]) ((pre ++ [t]).length) else none) (fun n => ?_) (Ev.bind e1 (Ev.yes (roomT _ _ (by simp; omega)) (by simpa using e2))))
   simp only [hand_mark_L0, ix_lt, cond_true, ix_get, Option.bind_some]
   rw [ix_wr pre t (by omega)]
  ·intro x hx
   rcases List.mem_cons.1 hx with rfl | hx
   ·exact m1
   ·exact m2 x hx
theorem mark_ev (D : List Decl) (ts : List (List Stmt)) (h : szT ts ≤ 3000) (h2 : ts.length ≤ 1000) : ∃ ts', Ev (fun n => hand_mark n ⟨D, ts⟩) ⟨D, ts'⟩ ∧ (∀ t ∈ ts', MkL t) ∧ szT ts' = szT ts ∧ ts'.length = ts.length := by
 obtain ⟨l', h1, h3⟩ := mark_L0 D ts ts [] [] 0 rfl (by omega) h2 (by simp; omega)
 exact ⟨l', Ev.of_eq (fun n => by simp only [hand_mark]; rfl) (by simpa using h1), h3⟩
def PM (m : Mark) : Prop := m.Block ≠ [] ∧ m.Block.length ≤ 20000 ∧ MkA m.S
theorem marks_all : (∀ s : Stmt, (∀ (a1 : List Int) (a2 a3 : Int), a1.length + szSl s.Body ≤ 10000 → MkL s.Body → ∃ ms j, Ev (fun n => ref8_marks n s.Body a1 a2 a3) (ms, j) ∧ ms.length ≤ szSl s.Body ∧ ∀ m ∈ ms, PM m) ∧
   ∀ (a1 : List Int) (a2 a3 : Int), a1.length + szSl s.Else ≤ 10000 → MkL s.Else → ∃ ms j, Ev (fun n => ref8_marks n s.Else a1 a2 a3) (ms, j) ∧ ms.length ≤ szSl s.Else ∧ ∀ m ∈ ms, PM m) ∧
  ∀ l : List Stmt, ∀ (a1 : List Int) (a2 a3 i : Int) (here : List Int) (pre : List Stmt) (acc : List Mark), here ≠ [] → here.length + szSl l ≤ 10001 → (pre ++ l).length ≤ 100000 → acc.length + szSl l ≤ 100000 → MkL l →
   ∃ ms j, Ev (fun n => ref8_marks_L0 n (pre ++ l) a1 a2 a3 i here acc pre.length) (acc ++ ms, j) ∧ ms.length ≤ szSl l ∧ ∀ m ∈ ms, PM m := by
 have whole : ∀ (b : List Stmt), (∀ (a1 : List Int) (a2 a3 i : Int) (here : List Int) (pre : List Stmt) (acc : List Mark), here ≠ [] → here.length + szSl b ≤ 10001 → (pre ++ b).length ≤ 100000 → acc.length + szSl b ≤ 100000 → MkL b →
   ∃ ms j, Ev (fun n => ref8_marks_L0 n (pre ++ b) a1 a2 a3 i here acc pre.length) (acc ++ ms, j) ∧ ms.length ≤ szSl b ∧ ∀ m ∈ ms, PM m) →
   ∀ (a1 : List Int) (a2 a3 : Int), a1.length + szSl b ≤ 10000 → MkL b → ∃ ms j, Ev (fun n => ref8_marks n b a1 a2 a3) (ms, j) ∧ ms.length ≤ szSl b ∧ ∀ m ∈ ms, PM m := by
  intro b hb a1 a2 a3 h hM
  have := len_Sl b
  obtain ⟨ms, j, h1, h2⟩ := hb a1 a2 a3 (wr (a3 + 1)) (([] ++ a1) ++ [wr (a3 + 1)]) [] [] (by simp) (by simp; omega) (by simp; omega) (by simp; omega) hM
  refine ⟨ms, j, Ev.step (Ev.of_eq (fun n => ?_) h1), h2⟩
  simp only [ref8_marks, roomI ([] : List Int).length a1.length (by simp; omega), List.nil_append, roomI a1.length [wr (a3 + 1)].length (by simp; omega), cond_true]
  rfl
 refine stmt_ind ?_ ?_ ?_
 ·intro k w v m e b l a hb hl
  exact ⟨whole b hb, whole l hl⟩
 ·intro a1 a2 a3 i here pre acc h0 h1 h2 h3 hM
  exact ⟨[], i, Ev.step (Ev.of_eq (g := fun n => some (acc, i)) (fun n => by simp only [ref8_marks_L0, List.append_nil, ix_ge, cond_false]) (by simpa using Ev.ret _)), by simp, by simp⟩
 ·intro x r ihx ihr a1 a2 a3 i here pre acc h0 h1 h2 h3 hM
  rw [szSl] at h1 h3
  have hx := szS_eq x
  have hp : pre.length + 1 ≤ 100000 := by simp at h2; omega
  obtain ⟨mx, mb, me, mr⟩ := MkL_cons.1 hM
  obtain ⟨b', j1, e1, l1, p1⟩ := ihx.1 here a2 i (by omega) mb
  obtain ⟨l', j2, e2, l2, p2⟩ := ihx.2 here a2 j1 (by omega) me
  obtain ⟨r', j, e3, l3, p3⟩ := ihr a1 a2 a3 j2 here (pre ++ [x]) (((acc ++ [Mark.mk x here a2]) ++ b') ++ l') h0 (by omega) (by rw [← ix_cons]; exact h2) (by simp; omega) mr
  refine ⟨Mark.mk x here a2 :: (b' ++ (l' ++ r')), j, ?_, by simp [szSl]; omega, ?_⟩
  ·refine Ev.step (Ev.of_eq (g := fun n => (ref8_marks n x.Body here a2 i).bind fun r10 => bif room s_mark.i1.bytes (acc ++ [(Mark.mk x here a2)]).length r10.1.length then
     (ref8_marks n x.Else here a2 r10.2).bind fun r13 => bif room s_mark.i1.bytes ((acc ++ [(Mark.mk x here a2)]) ++ r10.1).length r13.1.length then
      ref8_marks_L0 n ((pre ++ [x]) ++ r) a1 a2 a3 r13.2 here (((acc ++ [(Mark.mk x here a2)]) ++ r10.1) ++ r13.1) ((pre ++ [x]).length) else none else none) (fun n => ?_) (Ev.bind e1 (Ev.yes (roomM _ _ (by simp; omega)) (Ev.bind e2 (Ev.yes (roomM _ _ (by simp; omega)) (by simpa using e3))))))
   simp only [ref8_marks_L0, ix_lt, cond_true, ix_get, Option.bind_some, roomM acc.length [Mark.mk x here a2].length (by simp; omega)]
   rw [ix_wr pre x (by omega), ← ix_cons]
  ·intro m hm
   rcases List.mem_cons.1 hm with rfl | hm
   ·exact ⟨h0, by show here.length ≤ 20000; omega, mx⟩
   rcases List.mem_append.1 hm with hm | hm
   ·exact p1 m hm
   rcases List.mem_append.1 hm with hm | hm
   ·exact p2 m hm
   ·exact p3 m hm
theorem marks_ev (l : List Stmt) (a2 a3 : Int) (h : szSl l ≤ 10000) (hM : MkL l) : ∃ ms j, Ev (fun n => ref8_marks n l [] a2 a3) (ms, j) ∧ ms.length ≤ szSl l ∧ ∀ m ∈ ms, PM m := by
 have := (marks_all.1 ⟨0, b0, b0, 0, eN, l, [], c0⟩).1 [] a2 a3 (by simpa using h) hM
 exact this
theorem all_L0 (D : List Decl) (ts : List (List Stmt)) : ∀ (l pre : List (List Stmt)) (acc : List Mark) (i : Int), ts = pre ++ l → acc.length + szT l ≤ 10000 → ts.length ≤ 1000 → (∀ t ∈ l, MkL t) → (∀ m ∈ acc, PM m) →
  ∃ ms, Ev (fun n => ref8_all_L0 n ⟨D, ts⟩ acc i pre.length) ms ∧ ms.length ≤ 10000 ∧ ∀ m ∈ ms, PM m
 | [], pre, acc, i, e, h, h2, hM, hA => by
  rw [List.append_nil] at e; subst e
  exact ⟨acc, Ev.step (Ev.of_eq (g := fun n => some acc) (fun n => by simp only [ref8_all_L0, ix_ge, cond_false]) (Ev.ret _)), by omega, hA⟩
 | t :: r, pre, acc, i, e, h, h2, hM, hA => by
  rw [szT] at h
  have hp : pre.length + 1 ≤ 1000 := by rw [e] at h2; simp at h2; omega
  obtain ⟨mt, j, e1, l1, p1⟩ := marks_ev t (pre.length : Int) i (by omega) (hM t (by simp))
  obtain ⟨ms, e2, l2, p2⟩ := all_L0 D ts r (pre ++ [t]) (acc ++ mt) j (by rw [e]; exact ix_cons _ _ _) (by simp; omega) h2 (fun x hx => hM x (by simp [hx])) (fun m hm => by
   rcases List.mem_append.1 hm with hm | hm
   ·exact hA m hm
   ·exact p1 m hm)
  refine ⟨ms, ?_, l2, p2⟩
  subst e
  refine Ev.step (Ev.of_eq (g := fun n => (ref8_marks n t [] (pre.length : Int) i).bind fun r5 => bif room s_mark.i1.bytes acc.length r5.1.length then ref8_all_L0 n ⟨D, pre ++ t :: r⟩ (acc ++ r5.1) r5.2 ((pre ++ [t]).length) else none) (fun n => ?_) (Ev.bind e1 (Ev.yes (roomM _ _ (by simp; omega)) e2)))
  simp only [ref8_all_L0, ix_lt, cond_true, ix_get, Option.bind_some]
  rw [ix_wr pre t (by omega)]
theorem all_ev (D : List Decl) (ts : List (List Stmt)) (h : szT ts ≤ 10000) (h2 : ts.length ≤ 1000) (hM : ∀ t ∈ ts, MkL t) : ∃ ms, Ev (fun n => ref8_all n ⟨D, ts⟩) ms ∧ ms.length ≤ 10000 ∧ ∀ m ∈ ms, PM m := by
 obtain ⟨ms, h1, h3⟩ := all_L0 D ts ts [] [] 0 rfl (by simpa using h) h2 hM (by simp)
 exact ⟨ms, Ev.of_eq (fun n => by simp only [ref8_all]; rfl) h1, h3⟩
theorem inb_L0 (a0 : Int) (S : Stmt) (A : Int) : ∀ (l pre : List Int), (pre ++ l).length ≤ 1000000 → ∃ b, Ev (fun n => ref8_within_L0 n a0 ⟨S, pre ++ l, A⟩ pre.length) b
 | [], pre, h => ⟨false, Ev.step (Ev.of_eq (g := fun n => some false) (fun n => by simp only [ref8_within_L0, List.append_nil, ix_ge, cond_false]) (Ev.ret _))⟩
 | x :: r, pre, h => by
  have hp : pre.length + 1 ≤ 1000000 := by simp at h; omega
  cases c : (x == a0)
  ·obtain ⟨b, hb⟩ := inb_L0 a0 S A r (pre ++ [x]) (by rw [← ix_cons]; exact h)
   refine ⟨b, Ev.step (Ev.of_eq (fun n => ?_) hb)⟩
   simp only [ref8_within_L0, ix_lt, ix_get, cond_true, Option.bind_some, c, cond_false]
   rw [ix_wr pre x (by omega), ← ix_cons]
  ·exact ⟨true, Ev.step (Ev.of_eq (g := fun n => some true) (fun n => by simp only [ref8_within_L0, ix_lt, ix_get, cond_true, Option.bind_some, c]) (Ev.ret _))⟩
theorem inb_ev (a0 : Int) (m : Mark) (h : PM m) : ∃ b, Ev (fun n => ref8_within n a0 m) b := by
 obtain ⟨S, B, A⟩ := m
 obtain ⟨b, hb⟩ := inb_L0 a0 S A B [] (by have := h.2.1; simp only at this; simp; omega)
 exact ⟨b, Ev.of_eq (fun n => by simp only [ref8_within]; rfl) hb⟩
theorem target_L0 (i : Nat) (mi : Mark) (hmi : PM mi) (b1 : Bool) : ∀ (l pre : List Mark), idx (pre ++ l) (i : Int) = some mi → (pre ++ l).length ≤ 100000 → (∀ m ∈ l, PM m) → ∃ r, Ev (fun n => ref8_target_L0 n (pre ++ l) (i : Int) b1 pre.length) r
 | [], pre, hi, h, hP => ⟨-1, Ev.step (Ev.of_eq (g := fun n => some (-1)) (fun n => by simp only [ref8_target_L0, List.append_nil, ix_ge, cond_false]) (Ev.ret _))⟩
 | x :: r, pre, hi, h, hP => by
  have hp : pre.length + 1 ≤ 100000 := by simp at h; omega
  obtain ⟨q, hq⟩ := target_L0 i mi hmi b1 r (pre ++ [x]) (by rw [← ix_cons]; exact hi) (by rw [← ix_cons]; exact h) (fun m hm => hP m (by simp [hm]))
  obtain ⟨B1, B2, B3⟩ := hP x (by simp)
  have hne : 0 < x.Block.length := List.length_pos_iff.2 B1
  have hw : wr (ln x.Block - 1) = ((x.Block.length - 1 : Nat) : Int) := by
   show wr ((x.Block.length : Int) - 1) = _
   rw [wr_of (by omega)]; omega
  have hb : idx x.Block ((x.Block.length - 1 : Nat) : Int) = some (x.Block[x.Block.length - 1]'(by omega)) := idx_of (by omega) (by rw [Int.toNat_natCast]; exact List.getElem?_eq_getElem (by omega))
  obtain ⟨b, hW⟩ := inb_ev (x.Block[x.Block.length - 1]'(by omega)) mi hmi
  have base : ∀ n, ref8_target_L0 (n + 1) (pre ++ x :: r) (i : Int) b1 pre.length = jn (fun (b6 : Bool) => bif b6 then some (pre.length : Int) else ref8_target_L0 n ((pre ++ [x]) ++ r) (i : Int) b1 ((pre ++ [x]).length)) fun J7 =>
    bif (x.S.Kind == 10) then bif bytesEq x.S.Name mi.S.Name then bif (x.At == mi.At) then (ref8_within n (x.Block[x.Block.length - 1]'(by omega)) mi).bind fun r12 => J7 r12 else J7 false else J7 false else J7 false := by
   intro n
   simp only [ref8_target_L0, ix_lt, ix_get, cond_true, Option.bind_some, hi, hw, hb, ix_wr pre x (show pre.length + 1 ≤ 9223372036854775807 by omega)]
   rw [← ix_cons]
  cases c1 : (x.S.Kind == 10)
  ·exact ⟨q, Ev.step (Ev.of_eq (fun n => by rw [base]; simp only [jn, c1, cond_false]) hq)⟩
  cases c2 : bytesEq x.S.Name mi.S.Name
  ·exact ⟨q, Ev.step (Ev.of_eq (fun n => by rw [base]; simp only [jn, c1, c2, cond_false, cond_true]) hq)⟩
  cases c3 : (x.At == mi.At)
  ·exact ⟨q, Ev.step (Ev.of_eq (fun n => by rw [base]; simp only [jn, c1, c2, c3, cond_false, cond_true]) hq)⟩
  cases b
  ·exact ⟨q, Ev.step (Ev.of_eq (fun n => by rw [base]; simp only [jn, c1, c2, c3, cond_true]) (Ev.bind hW (g := fun n r12 => bif r12 then some (pre.length : Int) else ref8_target_L0 n ((pre ++ [x]) ++ r) (i : Int) b1 ((pre ++ [x]).length)) (Ev.no rfl hq)))⟩
  ·exact ⟨_, Ev.step (Ev.of_eq (fun n => by rw [base]; simp only [jn, c1, c2, c3, cond_true]) (Ev.bind hW (g := fun n r12 => bif r12 then some (pre.length : Int) else ref8_target_L0 n ((pre ++ [x]) ++ r) (i : Int) b1 ((pre ++ [x]).length)) (Ev.yes rfl (Ev.ret _))))⟩
theorem target_ev (ms : List Mark) (i : Nat) (hi : i < ms.length) (hl : ms.length ≤ 10000) (hP : ∀ m ∈ ms, PM m) : ∃ r, Ev (fun n => ref8_target n ms (i : Int)) r := by
 have d1 : decide ((i : Int) < 0) = false := decide_eq_false (by omega)
 have d2 : decide ((i : Int) ≥ ln ms) = false := decide_eq_false (by show ¬ (i : Int) ≥ (ms.length : Int); omega)
 have i1 : idx ms (i : Int) = some ms[i] := idx_of (by omega) (by rw [Int.toNat_natCast]; exact List.getElem?_eq_getElem hi)
 cases c : (ms[i].S.Kind != 9)
 ·have hmi := hP _ (List.getElem_mem hi)
  have hw : wr ((i : Int) + 1) = ((ms.take (i + 1)).length : Int) := by rw [wr_of (by omega), List.length_take]; omega
  obtain ⟨r, hr⟩ := target_L0 i ms[i] hmi false (ms.drop (i + 1)) (ms.take (i + 1)) (by rw [List.take_append_drop]; exact i1) (by rw [List.take_append_drop]; omega) (fun m hm => hP m (List.mem_of_mem_drop hm))
  refine ⟨r, Ev.of_eq (fun n => ?_) hr⟩
  simp only [ref8_target, jn, d1, d2, cond_false, i1, Option.bind_some, c, hw, List.take_append_drop]
 ·exact ⟨-1, Ev.of_eq (g := fun n => some (-1)) (fun n => by simp only [ref8_target, jn, d1, d2, cond_false, i1, Option.bind_some, c, cond_true]) (Ev.ret _)⟩
def JR (r : Cx × Int) : Prop := r.2 = 0 ∨ ∃ k : Nat, k ≤ 3000 ∧ r.1.re = FloatKind.f64.nearest (k : Int)
theorem Jumps_L1 (p : Prog) (r1 ms : List Mark) (i3 : Nat) (x4 : Mark) (b5 : Bool) (hx : PM x4) (hi : i3 ≤ ms.length) (hl : ms.length ≤ 10000)
  (next : ∃ r, Ev (fun n => ref8_Jumps_L0 n p r1 ms (wr ((i3 : Int) + 1))) r ∧ JR r) :
  ∀ (m j : Nat), i3 - j ≤ m → j ≤ i3 → ∃ r, Ev (fun n => ref8_Jumps_L1 n p r1 ms (i3 : Int) x4 b5 (j : Int)) r ∧ JR r
 | 0, j, h1, h2 => by
  obtain ⟨r, hr, hj⟩ := next
  have d1 : decide ((j : Int) < (i3 : Int)) = false := decide_eq_false (by omega)
  exact ⟨r, Ev.step (Ev.of_eq (fun n => by simp only [ref8_Jumps_L1, jn, d1, cond_false]) hr), hj⟩
 | m + 1, j, h1, h2 => by
  by_cases hj : j < i3
  ·have d1 : decide ((j : Int) < (i3 : Int)) = true := decide_eq_true (by omega)
   have i1 : idx ms (j : Int) = some (ms[j]'(by omega)) := idx_of (by omega) (by rw [Int.toNat_natCast]; exact List.getElem?_eq_getElem (by omega))
   have e3 : wr ((j : Int) + 1) = ((j + 1 : Nat) : Int) := by rw [wr_of (by omega)]; rfl
   obtain ⟨q, hq, jq⟩ := Jumps_L1 p r1 ms i3 x4 b5 hx hi hl next m (j + 1) (by omega) (by omega)
   have bad : JR (x4.S.At, 4) := .inr hx.2.2
   cases c0 : (x4.S.Kind == 10)
   ·obtain ⟨r, hr, hj⟩ := next
    exact ⟨r, Ev.step (Ev.of_eq (fun n => by simp only [ref8_Jumps_L1, jn, d1, cond_true, c0, cond_false]) hr), hj⟩
   cases c1 : ((ms[j]'(by omega)).S.Kind == 10)
   ·exact ⟨q, Ev.step (Ev.of_eq (fun n => by simp only [ref8_Jumps_L1, jn, d1, cond_true, c0, i1, Option.bind_some, c1, cond_false, e3]) hq), jq⟩
   cases c2 : bytesEq (ms[j]'(by omega)).S.Name x4.S.Name
   ·exact ⟨q, Ev.step (Ev.of_eq (fun n => by simp only [ref8_Jumps_L1, jn, d1, cond_true, c0, i1, Option.bind_some, c1, c2, cond_false, e3]) hq), jq⟩
   cases c3 : ((ms[j]'(by omega)).At == x4.At)
   ·exact ⟨q, Ev.step (Ev.of_eq (fun n => by simp only [ref8_Jumps_L1, jn, d1, cond_true, c0, i1, Option.bind_some, c1, c2, c3, cond_false, e3]) hq), jq⟩
   ·exact ⟨(x4.S.At, 4), Ev.step (Ev.of_eq (g := fun n => some (x4.S.At, 4)) (fun n => by simp only [ref8_Jumps_L1, jn, d1, cond_true, c0, i1, Option.bind_some, c1, c2, c3]) (Ev.ret _)), bad⟩
  ·exact Jumps_L1 p r1 ms i3 x4 b5 hx hi hl next m j (by omega) (by omega)
theorem Jumps_L0 (p : Prog) (r1 ms : List Mark) (hl : ms.length ≤ 10000) (hP : ∀ m ∈ ms, PM m) : ∀ (m i : Nat), ms.length - i ≤ m → i ≤ ms.length → ∃ r, Ev (fun n => ref8_Jumps_L0 n p r1 ms (i : Int)) r ∧ JR r
 | 0, i, h1, h2 => by
  have d1 : decide ((i : Int) < ln ms) = false := decide_eq_false (by show ¬ (i : Int) < (ms.length : Int); omega)
  exact ⟨(c0, 0), Ev.step (Ev.of_eq (g := fun n => some (c0, 0)) (fun n => by simp only [ref8_Jumps_L0, d1, cond_false]) (Ev.ret _)), .inl rfl⟩
 | m + 1, i, h1, h2 => by
  by_cases hi : i < ms.length
  ·have d1 : decide ((i : Int) < ln ms) = true := decide_eq_true (by show (i : Int) < (ms.length : Int); omega)
   have i1 : idx ms (i : Int) = some ms[i] := idx_of (by omega) (by rw [Int.toNat_natCast]; exact List.getElem?_eq_getElem hi)
   have e3 : wr ((i : Int) + 1) = ((i + 1 : Nat) : Int) := by rw [wr_of (by omega)]; rfl
   have hx := hP _ (List.getElem_mem hi)
   have next := Jumps_L0 p r1 ms hl hP m (i + 1) (by omega) (by omega)
   rw [← e3] at next
   have inner : ∀ b5, ∃ r, Ev (fun n => ref8_Jumps_L1 n p r1 ms (i : Int) ms[i] b5 0) r ∧ JR r := fun b5 => Jumps_L1 p r1 ms i ms[i] b5 hx h2 hl next i 0 (by omega) (by omega)
   cases c1 : (ms[i].S.Kind == 9)
   ·obtain ⟨r, hr, hj⟩ := inner false
    exact ⟨r, Ev.step (Ev.of_eq (fun n => by simp only [ref8_Jumps_L0, d1, cond_true, i1, Option.bind_some, jn, c1, cond_false]) hr), hj⟩
   ·obtain ⟨t, ht⟩ := target_ev ms i hi hl hP
    cases c2 : decide (t < 0)
    ·obtain ⟨r, hr, hj⟩ := inner false
     refine ⟨r, Ev.step (Ev.of_eq (g := fun n => (ref8_target n ms (i : Int)).bind fun r7 => bif decide (r7 < 0) then some (ms[i].S.At, 4) else ref8_Jumps_L1 n p r1 ms (i : Int) ms[i] (decide (r7 < 0)) 0) (fun n => ?_) (Ev.bind ht (Ev.no c2 (by rw [c2]; exact hr)))), hj⟩
     simp only [ref8_Jumps_L0, d1, cond_true, i1, Option.bind_some, jn, c1]
    ·refine ⟨(ms[i].S.At, 4), Ev.step (Ev.of_eq (g := fun n => (ref8_target n ms (i : Int)).bind fun r7 => bif decide (r7 < 0) then some (ms[i].S.At, 4) else ref8_Jumps_L1 n p r1 ms (i : Int) ms[i] (decide (r7 < 0)) 0) (fun n => ?_) (Ev.bind ht (Ev.yes c2 (Ev.ret _)))), .inr hx.2.2⟩
     simp only [ref8_Jumps_L0, d1, cond_true, i1, Option.bind_some, jn, c1]
  ·exact Jumps_L0 p r1 ms hl hP m i (by omega) h2
theorem Jumps_ev (D : List Decl) (ts : List (List Stmt)) (h : szT ts ≤ 10000) (h2 : ts.length ≤ 1000) (hM : ∀ t ∈ ts, MkL t) : ∃ r, Ev (fun n => ref8_Jumps n ⟨D, ts⟩) r ∧ JR r := by
 obtain ⟨ms, e1, l1, p1⟩ := all_ev D ts h h2 hM
 obtain ⟨r, e2, j2⟩ := Jumps_L0 ⟨D, ts⟩ ms ms l1 p1 ms.length 0 (by omega) (by omega)
 exact ⟨r, Ev.of_eq (g := fun n => (ref8_all n ⟨D, ts⟩).bind fun r1 => ref8_Jumps_L0 n ⟨D, ts⟩ r1 r1 0) (fun n => by simp only [ref8_Jumps]) (Ev.bind e1 e2), j2⟩
theorem okH_re {k m : Int} {w v : ByteArray} {e : Expr} {b l b' l' : List Stmt} {a : Cx} (h : okH ⟨k, w, v, m, e, b, l, a⟩) (hb : b = [] → b' = []) (hl : l = [] → l' = []) : okH ⟨k, w, v, m, e, b', l', a⟩ := by
 cases h
 case assign => obtain rfl := hb rfl; obtain rfl := hl rfl; constructor <;> assumption
 case lock => obtain rfl := hb rfl; obtain rfl := hl rfl; constructor
 case unlock => obtain rfl := hb rfl; obtain rfl := hl rfl; constructor
 case send => obtain rfl := hb rfl; obtain rfl := hl rfl; constructor <;> assumption
 case recv => obtain rfl := hb rfl; obtain rfl := hl rfl; constructor <;> assumption
 case print => obtain rfl := hb rfl; obtain rfl := hl rfl; constructor <;> assumption
 case cond => constructor <;> assumption
 case rep => obtain rfl := hl rfl; constructor <;> assumption
 case goto => obtain rfl := hb rfl; obtain rfl := hl rfl; constructor <;> assumption
 case label => obtain rfl := hb rfl; obtain rfl := hl rfl; constructor <;> assumption
theorem okS_re {d : Nat} (s : Stmt) {b' l' : List Stmt} (h : okS d s) (ob : okSl (d - 1) b') (ol : okSl (d - 1) l') (hb : s.Body = [] → b' = []) (hl : s.Else = [] → l' = []) : okS d ⟨s.Kind, s.Name, s.Other, s.N, s.E, b', l', s.At⟩ := by
 cases s with
 | mk k w v m e b l a =>
  rw [okS] at h ⊢
  obtain ⟨h1, h2, h3, h4, h5⟩ := h
  exact ⟨okH_re h1 hb hl, fun h => ⟨hb (h2 h).1, hl (h2 h).2⟩, h3, ob, ol⟩
theorem cut_all (site : Int) : (∀ s : Stmt, ∀ d, okS d s → wt s ≤ 100000 → (∀ i : Int, ∃ b' j, Ev (fun n => hand_cut n s.Body site i) (b', j) ∧ okSl (d - 1) b' ∧ wtl b' ≤ wtl s.Body ∧ (s.Body = [] → b' = [])) ∧
   ∀ i : Int, ∃ b' j, Ev (fun n => hand_cut n s.Else site i) (b', j) ∧ okSl (d - 1) b' ∧ wtl b' ≤ wtl s.Else ∧ (s.Else = [] → b' = [])) ∧
  ∀ l : List Stmt, ∀ d, okSl d l → wtl l ≤ 100000 → ∀ (a2 : Int) (pre acc : List Stmt) (i : Int), (pre ++ l).length ≤ 1000000 → acc.length + l.length ≤ 1000000 →
   ∃ l' j, Ev (fun n => hand_cut_L0 n (pre ++ l) site a2 i acc pre.length) (acc ++ l', j) ∧ okSl d l' ∧ wtl l' ≤ wtl l ∧ (l = [] → l' = []) := by
 refine stmt_ind ?_ ?_ ?_
 ·intro k w v m e b l a hb hl d h hw
  rw [okS] at h
  rw [wt] at hw
  obtain ⟨_, _, _, h4, h5⟩ := h
  have lb := len_Sl b
  have ll := len_Sl l
  have wb := szS_wt.2 b _ h4
  have wl := szS_wt.2 l _ h5
  constructor
  ·intro i
   obtain ⟨l', j, h1, h2⟩ := hb (d - 1) h4 (by omega) i [] [] i (by simp; omega) (by simp; omega)
   exact ⟨l', j, Ev.step (Ev.of_eq (fun n => by simp only [hand_cut]; rfl) h1), h2⟩
  ·intro i
   obtain ⟨l', j, h1, h2⟩ := hl (d - 1) h5 (by omega) i [] [] i (by simp; omega) (by simp; omega)
   exact ⟨l', j, Ev.step (Ev.of_eq (fun n => by simp only [hand_cut]; rfl) h1), h2⟩
 ·intro d _ _ a2 pre acc i h1 h2
  exact ⟨[], i, Ev.step (Ev.of_eq (g := fun n => some (acc, i)) (fun n => by simp only [hand_cut_L0, List.append_nil, ix_ge, cond_false]) (by simpa using Ev.ret _)), by rw [okSl]; trivial, by omega, fun _ => rfl⟩
 ·intro x r ihx ihr d ho hw a2 pre acc i h1 h2
  rw [okSl] at ho
  rw [wtl] at hw
  have hp : pre.length + 1 ≤ 1000000 := by simp at h1; omega
  have ha : acc.length + 1 + r.length ≤ 1000000 := by simp at h2; omega
  obtain ⟨b', j1, e1, o1, w1, n1⟩ := (ihx d ho.1 (by omega)).1 (wr (i + 1))
  obtain ⟨l', j2, e2, o2, w2, n2⟩ := (ihx d ho.1 (by omega)).2 j1
  have ox := okS_re x ho.1 o1 o2 n1 n2
  have wx := wt_eq x
  cases c : (i != site)
  ·obtain ⟨r', j, e3, o3, w3, n3⟩ := ihr d ho.2 (by omega) a2 (pre ++ [x]) acc j2 (by rw [← ix_cons]; exact h1) (by omega)
   refine ⟨r', j, ?_, o3, by rw [wtl]; omega, fun h => by simp at h⟩
   refine Ev.step (Ev.of_eq (g := fun n => (hand_cut n x.Body site (wr (i + 1))).bind fun r9 => (hand_cut n x.Else site r9.2).bind fun r11 => hand_cut_L0 n ((pre ++ [x]) ++ r) site a2 r11.2 acc ((pre ++ [x]).length)) (fun n => ?_) (Ev.bind e1 (Ev.bind e2 e3)))
   simp only [hand_cut_L0, jn, ix_lt, cond_true, ix_get, Option.bind_some, c, cond_false]
   rw [ix_wr pre x (by omega), ← ix_cons]
  ·obtain ⟨r', j, e3, o3, w3, n3⟩ := ihr d ho.2 (by omega) a2 (pre ++ [x]) (acc ++ [Stmt.mk x.Kind x.Name x.Other x.N x.E b' l' x.At]) j2 (by rw [← ix_cons]; exact h1) (by simp; omega)
   refine ⟨Stmt.mk x.Kind x.Name x.Other x.N x.E b' l' x.At :: r', j, ?_, by rw [okSl]; exact ⟨ox, o3⟩, by rw [wtl, wtl, wt]; omega, fun h => by simp at h⟩
   refine Ev.step (Ev.of_eq (g := fun n => (hand_cut n x.Body site (wr (i + 1))).bind fun r9 => (hand_cut n x.Else site r9.2).bind fun r11 =>
    bif room s_Stmt.i1.bytes acc.length [(Stmt.mk x.Kind x.Name x.Other x.N x.E r9.1 r11.1 x.At)].length then hand_cut_L0 n ((pre ++ [x]) ++ r) site a2 r11.2 (acc ++ [(Stmt.mk x.Kind x.Name x.Other x.N x.E r9.1 r11.1 x.At)]) ((pre ++ [x]).length) else none) (fun n => ?_) (Ev.bind e1 (Ev.bind e2 (Ev.yes (room32 _ (by omega) _) (by simpa using e3)))))
   simp only [hand_cut_L0, jn, ix_lt, cond_true, ix_get, Option.bind_some, c]
   rw [ix_wr pre x (by omega), ← ix_cons]
theorem cut_ev (site : Int) (l : List Stmt) (d : Nat) (i : Int) (ho : okSl d l) (hw : wtl l ≤ 10000) : ∃ l' j, Ev (fun n => hand_cut n l site i) (l', j) ∧ okSl d l' ∧ wtl l' ≤ wtl l := by
 have ll := len_Sl l
 have wl := szS_wt.2 l _ ho
 obtain ⟨l', j, h1, h2, h3, _⟩ := (cut_all site).2 l d ho (by omega) i [] [] i (by simp; omega) (by simp; omega)
 exact ⟨l', j, Ev.step (Ev.of_eq (fun n => by simp only [hand_cut]; rfl) h1), h2, h3⟩
theorem without_L0 (D : List Decl) (ts : List (List Stmt)) (site : Int) : ∀ (l pre acc : List (List Stmt)) (i : Int), ts = pre ++ l → ts.length ≤ 1000 → acc.length + l.length ≤ 1000 → okTs l → okTs acc →
  ∃ l', Ev (fun n => hand_without_L0 n ⟨D, ts⟩ site i acc pre.length) ⟨D, l'⟩ ∧ okTs l' ∧ l'.length = acc.length + l.length
 | [], pre, acc, i, e, h2, h3, o1, o2 => by
  rw [List.append_nil] at e; subst e
  exact ⟨acc, Ev.step (Ev.of_eq (g := fun n => some ⟨D, acc⟩) (fun n => by simp only [hand_without_L0, ix_ge, cond_false]) (Ev.ret _)), o2, by simp⟩
 | t :: r, pre, acc, i, e, h2, h3, o1, o2 => by
  have hp : pre.length + 1 ≤ 1000 := by rw [e] at h2; simp at h2; omega
  have ha : acc.length + 1 + r.length ≤ 1000 := by simp at h3; omega
  obtain ⟨ot, wt_⟩ := o1 t (by simp)
  obtain ⟨t', j, e1, p1, w1⟩ := cut_ev site t 2 i ot (by omega)
  obtain ⟨l', e2, p2, w2⟩ := without_L0 D ts site r (pre ++ [t]) (acc ++ [t']) j (by rw [e]; exact ix_cons _ _ _) h2 (by simp; omega) (fun x hx => o1 x (by simp [hx])) (fun x hx => by
   rcases List.mem_append.1 hx with hx | hx
   ·exact o2 x hx
   ·rw [List.mem_singleton] at hx; subst hx; exact ⟨p1, by omega⟩)
  refine ⟨l', ?_, p2, by rw [w2]; simp; omega⟩
  subst e
  refine Ev.step (Ev.of_eq (g := fun n => (hand_cut n t site i).bind fun r5 => bif room s_LStmt.i1.bytes acc.length [r5.1].length then hand_without_L0 n ⟨D, pre ++ t :: r⟩ site r5.2 (acc ++ [r5.1]) ((pre ++ [t]).length) else none) (fun n => ?_) (Ev.bind e1 (Ev.yes (roomT _ _ (by simp; omega)) e2)))
  simp only [hand_without_L0, ix_lt, cond_true, ix_get, Option.bind_some]
  rw [ix_wr pre t (by omega)]
theorem szT_ok : ∀ ts : List (List Stmt), okTs ts → szT ts ≤ 641 * ts.length
 | [], _ => by simp [szT]
 | t :: r, h => by
  have h1 := h t (by simp)
  have h2 := szT_ok r (fun x hx => h x (by simp [hx]))
  have h3 := szS_wt.2 t 2 h1.1
  rw [szT, List.length_cons]; omega
theorem fixed_L0 (a0 : Prog) (D : List Decl) : ∀ (m i : Nat), 40 - i ≤ m → i ≤ 40 → ∀ ts, okTs ts → ts.length ≤ 3 → ∃ ts', Ev (fun n => hand_fixed_L0 n a0 ⟨D, ts⟩ (i : Int)) ⟨D, ts'⟩ ∧ okTs ts' ∧ ts'.length ≤ 3
 | 0, i, h1, h2, ts, ho, hl => by
  have d1 : decide ((i : Int) < 40) = false := decide_eq_false (by omega)
  exact ⟨[[]], Ev.step (Ev.of_eq (g := fun n => some ⟨D, [[]]⟩) (fun n => by simp only [hand_fixed_L0, d1, cond_false]) (Ev.ret _)), fun t ht => by
   rw [List.mem_singleton] at ht; subst ht
   exact ⟨by rw [okSl]; trivial, by rw [wtl]; omega⟩, by simp⟩
 | m + 1, i, h1, h2, ts, ho, hl => by
  by_cases hi : i < 40
  ·have d1 : decide ((i : Int) < 40) = true := decide_eq_true (by omega)
   have e3 : wr ((i : Int) + 1) = ((i + 1 : Nat) : Int) := by rw [wr_of (by omega)]; rfl
   have hz := szT_ok ts ho
   obtain ⟨ts1, k1, k2, k3, k4⟩ := mark_ev D ts (by omega) (by omega)
   obtain ⟨r, k5, k6⟩ := Jumps_ev D ts1 (by omega) (by omega) k2
   cases c : (r.2 == 0)
   ·obtain ⟨k, hk, hr⟩ : ∃ k : Nat, k ≤ 3000 ∧ r.1.re = FloatKind.f64.nearest (k : Int) := by
     rcases k6 with h | h
     ·rw [h] at c; cases c
     ·exact h
    have hf : f2i r.1.re = some (k : Int) := by rw [hr]; exact f2i_of k hk
    obtain ⟨ts2, k7, k8, k9⟩ := without_L0 D ts (k : Int) ts [] [] 0 rfl (by omega) (by simp; omega) ho (fun t ht => by simp at ht)
    have hwo : Ev (fun n => hand_without n ⟨D, ts⟩ (k : Int)) ⟨D, ts2⟩ := Ev.of_eq (fun n => by simp only [hand_without]; rfl) k7
    obtain ⟨ts3, q1, q2⟩ := fixed_L0 a0 D m (i + 1) (by omega) (by omega) ts2 k8 (by rw [k9]; simpa using hl)
    refine ⟨ts3, Ev.step (Ev.of_eq (g := fun n => (hand_mark n ⟨D, ts⟩).bind fun r3 => (ref8_Jumps n r3).bind fun r4 => bif (r4.2 == 0) then some ⟨D, ts⟩ else (f2i r4.1.re).bind fun x5 => (hand_without n ⟨D, ts⟩ x5).bind fun r6 => hand_fixed_L0 n a0 r6 ((i + 1 : Nat) : Int)) (fun n => ?_) (Ev.bind k1 (Ev.bind k5 (Ev.no c (Ev.opt hf (Ev.bind hwo q1)))))), q2⟩
    simp only [hand_fixed_L0, d1, cond_true, e3]
   ·refine ⟨ts, Ev.step (Ev.of_eq (g := fun n => (hand_mark n ⟨D, ts⟩).bind fun r3 => (ref8_Jumps n r3).bind fun r4 => bif (r4.2 == 0) then some ⟨D, ts⟩ else (f2i r4.1.re).bind fun x5 => (hand_without n ⟨D, ts⟩ x5).bind fun r6 => hand_fixed_L0 n a0 r6 ((i + 1 : Nat) : Int)) (fun n => ?_) (Ev.bind k1 (Ev.bind k5 (Ev.yes c (Ev.ret _))))), ho, hl⟩
    simp only [hand_fixed_L0, d1, cond_true, e3]
  ·exact fixed_L0 a0 D m i (by omega) h2 ts ho hl
theorem Good_ev (how : Int) (a b c : List Act) (most : Int) (hm : most ≤ 100) : ∃ w, Ev (fun n => hand_Good n how a b c most) w := by
 obtain ⟨D, ts, hp, oD, ots, hlen⟩ := prog_ev how a b c most hm
 obtain ⟨ts', hf, ots', hlen'⟩ := fixed_L0 ⟨D, ts⟩ D 40 0 (by omega) (by omega) ts ots (by omega)
 obtain ⟨oSD, oSn⟩ := okSD_of oD
 obtain ⟨w, hw⟩ := Show_ev D ts' oSD oSn (fun t ht => ⟨2, (ots' t ht).1, by have := (ots' t ht).2; omega⟩) (by omega)
 have hfx : Ev (fun n => hand_fixed n ⟨D, ts⟩) ⟨D, ts'⟩ := Ev.of_eq (fun n => by simp only [hand_fixed]; rfl) hf
 exact ⟨w, Ev.of_eq (g := fun n => (hand_Prog n how a b c most).bind fun r1 => (hand_fixed n r1).bind fun r2 => (ref1_Show n r2).bind fun r3 => some r3) (fun n => by simp only [hand_Good]) (Ev.bind hp (Ev.bind hfx (Ev.bind hw (Ev.ret _))))⟩
end Go.Su.Ytfmgnboplbgniaa
namespace Go.Mx
open Ieee Go
set_option linter.unusedVariables false
theorem sg_nat (m i : Nat) : signed false m i = ((m * 2 ^ i : Nat) : Int) := by
 unfold signed; simp only [Bool.false_eq_true, if_false]; rw [Nat.shiftLeft_eq]
theorem ord_self (r : Nat) (h : r < 2 ^ 53) : (FloatKind.f64.format.order (FloatKind.f64.nearest (r : Int)) (FloatKind.f64.nearest (r : Int)) == some .eq) = true := by
 rw [near_eq]
 obtain ⟨m, p, hp, hr, _⟩ := read_nat r h
 have : FloatKind.f64.format.order (double.nearest false r 0) (double.nearest false r 0) = some .eq := by
  show (double.read _).order (double.read _) = _
  rw [hr]
  simp [Datum.order]
 rw [this]; rfl
theorem ord_ge0 (r : Nat) (h : r < 2 ^ 53) : (FloatKind.f64.format.order (FloatKind.f64.nearest (r : Int)) 0 == some .gt || FloatKind.f64.format.order (FloatKind.f64.nearest (r : Int)) 0 == some .eq) = true := by
 rw [near_eq]
 obtain ⟨m, p, hp, hr, _⟩ := read_nat r h
 have hz : double.read 0 = .number false 0 (-1074) := by kernel_rfl
 have : FloatKind.f64.format.order (double.nearest false r 0) 0 = some .gt ∨ FloatKind.f64.format.order (double.nearest false r 0) 0 = some .eq := by
  show (double.read _).order (double.read 0) = _ ∨ (double.read _).order (double.read 0) = _
  rw [hr, hz]
  simp only [Datum.order, sg_nat, Nat.zero_mul, Option.some.injEq]
  generalize m * 2 ^ (-(p : Int) - min (-(p : Int)) (-1074)).toNat = k
  rcases Nat.eq_zero_or_pos k with e | e
  ·right; subst e; rfl
  ·left
   show compareOfLessAndEq (k : Int) 0 = _
   unfold compareOfLessAndEq
   rw [if_neg (by omega), if_neg (by omega)]
 rcases this with e | e <;> rw [e] <;> rfl
theorem cutZ (n d : Nat) : Toward.zero.cut false (n * 2 ^ d) d = n := by
 by_cases h0 : n = 0
 ·subst h0
  unfold Toward.cut
  simp
 ·have hl := log_mul n d (by omega)
  unfold Toward.cut
  rw [Nat.min_eq_left (by omega)]
  simp only [Nat.one_shiftLeft, Bool.toNat_false, Nat.add_zero]
  exact Nat.mul_div_cancel _ (Nat.pow_pos (by omega))
theorem f2i_nat (r : Nat) (h : r < 2 ^ 53) : f2i (FloatKind.f64.nearest (r : Int)) = some (r : Int) := by
 rw [near_eq]
 obtain ⟨m, p, hp, hr, hm, _⟩ := read_nat r h
 have e : (FloatKind.f64.decode (double.nearest false r 0)).toInt .zero = some (r : Int) := by
  show (double.read _).toInt .zero = _
  rw [hr]
  unfold Datum.toInt Datum.integral
  simp only [sg_nat, Nat.pow_zero, Nat.mul_one]
  rw [show (-(p : Int)).toNat = 0 by omega, show (- -(p : Int)).toNat = p by omega]
  rw [Nat.shiftLeft_zero, hm, cutZ]
 unfold f2i
 rw [e]
 have : (decide (IntKind.i64.min ≤ (r : Int)) && decide ((r : Int) ≤ IntKind.i64.max)) = true := by
  have a : IntKind.i64.min = -9223372036854775808 := by kernel_rfl
  have b : IntKind.i64.max = 9223372036854775807 := by kernel_rfl
  rw [a, b]; simp only [Bool.and_eq_true, decide_eq_true_eq]; omega
 show (bif (decide (IntKind.i64.min ≤ (r : Int)) && decide ((r : Int) ≤ IntKind.i64.max)) then some (r : Int) else none) = _
 rw [this]; rfl
end Go.Mx
namespace Go.Su.Ytfmgnboplbgniaa
open Go.Mx Go.Proofs
set_option linter.unusedVariables false
set_option linter.unusedSimpArgs false
set_option maxHeartbeats 4000000
def toI (l : List Nat) : List Int := l.map fun (k : Nat) => (k : Int)
theorem toI_len (l : List Nat) : (toI l).length = l.length := by simp [toI]
theorem toI_app (a b : List Nat) : toI (a ++ b) = toI a ++ toI b := by simp [toI]
theorem toI_cons (k : Nat) (b : List Nat) : toI (k :: b) = (k : Int) :: toI b := rfl
section
variable (a0 : Int) (a1 a2 a3 : List Act) (a4 a5 : Int) (r1 : ByteArray) (p : Prog) (r3 : Int) (few : List ByteArray) (r5 : Int) (r6 : List ByteArray) (S : List Stmt)
theorem ch_L2 (L : List Int) (i10 : Int) (x : Stmt) (T : List ByteArray) (b13 : Bool) (i14 : Int) (w : ByteArray) (hf : few.length ≤ 1000) : ∀ (l pre : List ByteArray) (b : Bool), few = pre ++ l →
  Ev (fun n => law22_CostHolds_L1 n a0 a1 a2 a3 a4 a5 r1 p r3 few r5 r6 S L i10 x T (b || l.any fun y => bytesEq w y) (wr (i14 + 1))) true →
  Ev (fun n => law22_CostHolds_L2 n a0 a1 a2 a3 a4 a5 r1 p r3 few r5 r6 S L i10 x T b13 i14 w b pre.length) true
 | [], pre, b, e, h => by
  rw [List.append_nil] at e
  subst e
  refine Ev.step (Ev.of_eq (fun n => ?_) h)
  have d : decide (((few.length : Nat) : Int) < ln few) = false := decide_eq_false (by show ¬ ((few.length : Nat) : Int) < ((few.length : Nat) : Int); omega)
  simp only [law22_CostHolds_L2, d, cond_false, List.any_nil, Bool.or_false]
 | y :: l, pre, b, e, h => by
  have hp : pre.length + 1 ≤ 1000 := by rw [e] at hf; simp at hf; omega
  have nx := ch_L2 L i10 x T b13 i14 w hf l (pre ++ [y]) (b || bytesEq w y) (by rw [e]; exact ix_cons _ _ _) (by rw [List.any_cons, ← Bool.or_assoc] at h; exact h)
  refine Ev.step (Ev.of_eq (fun n => ?_) nx)
  have d : decide ((pre.length : Int) < ln few) = true := by rw [e]; exact ix_lt _ _ _
  have g : idx few (pre.length : Int) = some y := by rw [e]; exact ix_get _ _ _
  simp only [law22_CostHolds_L2, d, g, cond_true, Option.bind_some, jn]
  rw [ix_wr pre y (by omega)]
  cases b <;> rfl
theorem ch_L1 (L : List Int) (i10 : Int) (x : Stmt) (T : List ByteArray) (hf : few.length ≤ 1000) (hT : T.length ≤ 2000000) : ∀ (l pre : List ByteArray) (b : Bool), T = pre ++ l →
  (∀ i14, Ev (fun n => law22_CostHolds_L3 n a0 a1 a2 a3 a4 a5 r1 p r3 few r5 r6 S L i10 x T (b || l.any (has few)) i14 0 0) true) →
  Ev (fun n => law22_CostHolds_L1 n a0 a1 a2 a3 a4 a5 r1 p r3 few r5 r6 S L i10 x T b pre.length) true
 | [], pre, b, e, h => by
  rw [List.append_nil] at e
  subst e
  refine Ev.step (Ev.of_eq (fun n => ?_) (h ((T.length : Nat) : Int)))
  have d : decide (((T.length : Nat) : Int) < ln T) = false := decide_eq_false (by show ¬ ((T.length : Nat) : Int) < ((T.length : Nat) : Int); omega)
  simp only [law22_CostHolds_L1, d, cond_false, List.any_nil, Bool.or_false]
 | w :: l, pre, b, e, h => by
  have hp : pre.length + 1 ≤ 2000000 := by rw [e] at hT; simp at hT; omega
  have hh : (few.any fun y => bytesEq w y) = has few w := by
   unfold has; congr 1; funext y; exact bytesEq_comm _ _
  have nx := ch_L1 L i10 x T hf hT l (pre ++ [w]) (b || has few w) (by rw [e]; exact ix_cons _ _ _) (fun i => by have := h i; rw [List.any_cons, ← Bool.or_assoc] at this; exact this)
  have n2 := ch_L2 a0 a1 a2 a3 a4 a5 r1 p r3 few r5 r6 S L i10 x T b (pre.length : Int) w hf few [] b rfl (by rw [hh, ix_wr pre w (by omega)]; exact nx)
  refine Ev.step (Ev.of_eq (fun n => ?_) n2)
  have d : decide ((pre.length : Int) < ln T) = true := by rw [e]; exact ix_lt _ _ _
  have g : idx T (pre.length : Int) = some w := by rw [e]; exact ix_get _ _ _
  simp only [law22_CostHolds_L1, d, g, cond_true, Option.bind_some]
  rfl
theorem ch_L3 (L : List Nat) (i : Nat) (x : Stmt) (T : List ByteArray) (b13 : Bool) (i14 : Int) (hL : L.length ≤ 1000000) (hS : S.length ≤ 1000000) (hi : i < S.length) (hz : ∀ y ∈ S, szS y ≤ 900000) (hm : ∀ k ∈ L, k < S.length) :
  ∀ (l pre : List Nat) (c : Nat), L = pre ++ l → c ≤ pre.length → c + (l.filter (cov S i)).length ≤ 1 → (b13 = true → c + (l.filter (cov S i)).length = 1) →
  Ev (fun n => law22_CostHolds_L0 n a0 a1 a2 a3 a4 a5 r1 p r3 few r5 r6 S (toI L) ((i + 1 : Nat) : Int)) true →
  Ev (fun n => law22_CostHolds_L3 n a0 a1 a2 a3 a4 a5 r1 p r3 few r5 r6 S (toI L) (i : Int) x T b13 i14 (c : Int) pre.length) true
 | [], pre, c, e, hc, h1, h2, h => by
  rw [List.append_nil] at e
  subst e
  simp only [List.filter_nil, List.length_nil, Nat.add_zero] at h1 h2
  have d : decide (((L.length : Nat) : Int) < ln (toI L)) = false := decide_eq_false (by show ¬ ((L.length : Nat) : Int) < (((toI L).length : Nat) : Int); rw [toI_len]; omega)
  have e3 : wr ((i : Int) + 1) = ((i + 1 : Nat) : Int) := by rw [wr_of (by omega)]; rfl
  have c1 : decide ((c : Int) > 1) = false := decide_eq_false (by omega)
  refine Ev.step (Ev.of_eq (fun n => ?_) h)
  cases b13
  ·simp only [law22_CostHolds_L3, d, cond_false, jn, c1, e3]
  ·have c2 : ((c : Int) != 1) = false := by rw [h2 rfl]; rfl
   simp only [law22_CostHolds_L3, d, cond_false, cond_true, jn, c1, c2, e3]
 | k :: l, pre, c, e, hc, h1, h2, h => by
  have hp : pre.length + 1 ≤ 1000000 := by rw [e] at hL; simp at hL; omega
  have hk : k < S.length := hm k (by rw [e]; simp)
  have eL : toI L = toI pre ++ (k : Int) :: toI l := by rw [e, toI_app, toI_cons]
  have d : decide ((pre.length : Int) < ln (toI L)) = true := decide_eq_true (by show ((pre.length : Nat) : Int) < (((toI L).length : Nat) : Int); rw [toI_len, e]; simp; omega)
  have g : idx (toI L) (pre.length : Int) = some (k : Int) := by rw [eL, ← toI_len pre]; exact ix_get _ _ _
  have gk : S[k]? = some S[k] := List.getElem?_eq_getElem hk
  have gS : idx S (k : Int) = some S[k] := idx_of (by omega) (by rw [Int.toNat_natCast]; exact gk)
  have hwn := hz _ (List.getElem_mem hk)
  have hw := flat_len.1 S[k]
  rw [fl1_len] at hw
  have ew := hwithin_all.1 S[k] (by omega)
  have k0 : decide ((k : Int) < 0) = false := decide_eq_false (by omega)
  have kl : decide ((k : Int) ≥ ln S) = false := decide_eq_false (by show ¬ (k : Int) ≥ ((S.length : Nat) : Int); omega)
  have e3 : wr ((pre.length : Int) + 1) = ((pre ++ [k]).length : Int) := by rw [wr_of (by omega)]; simp
  have e4 : wr ((c : Int) + 1) = ((c + 1 : Nat) : Int) := by rw [wr_of (by omega)]; rfl
  have e5 : wr ((k : Int) + ((wn S[k] : Nat) : Int)) = ((k + wn S[k] : Nat) : Int) := by rw [wr_of (by omega)]; omega
  have hcov : cov S i k = (decide (k ≤ i) && decide (i ≤ k + wn S[k])) := by unfold cov; rw [gk]
  rw [List.filter_cons] at h1 h2
  by_cases q : i = k
  ·have cv : cov S i k = true := by rw [hcov, decide_eq_true (by omega), decide_eq_true (by omega)]; rfl
   rw [cv] at h1 h2
   simp only [if_true, List.length_cons] at h1 h2
   have nx := ch_L3 L i x T b13 i14 hL hS hi hz hm l (pre ++ [k]) (c + 1) (by rw [e]; exact ix_cons _ _ _) (by simp; omega) (by omega) (fun hb => by have := h2 hb; omega) h
   refine Ev.step (Ev.of_eq (fun n => ?_) nx)
   have b : ((i : Int) == (k : Int)) = true := by rw [q]; simp
   simp only [law22_CostHolds_L3, d, g, cond_true, cond_false, Option.bind_some, jn, k0, kl, b, e3, e4]
  ·have b : ((i : Int) == (k : Int)) = false := by simp; omega
   by_cases q2 : k < i
   ·have b2 : decide ((i : Int) > (k : Int)) = true := decide_eq_true (by omega)
    by_cases q3 : i ≤ k + wn S[k]
    ·have cv : cov S i k = true := by rw [hcov, decide_eq_true (by omega), decide_eq_true q3]; rfl
     rw [cv] at h1 h2
     simp only [if_true, List.length_cons] at h1 h2
     have b3 : decide ((i : Int) ≤ ((k + wn S[k] : Nat) : Int)) = true := decide_eq_true (by omega)
     have nx := ch_L3 L i x T b13 i14 hL hS hi hz hm l (pre ++ [k]) (c + 1) (by rw [e]; exact ix_cons _ _ _) (by simp; omega) (by omega) (fun hb => by have := h2 hb; omega) h
     refine Ev.step (Ev.of_eq (g := fun n => (law22_within n S[k]).bind fun r31 => bif decide ((i : Int) ≤ wr ((k : Int) + r31)) then law22_CostHolds_L3 n a0 a1 a2 a3 a4 a5 r1 p r3 few r5 r6 S (toI L) (i : Int) x T b13 i14 ((c + 1 : Nat) : Int) (((pre ++ [k]).length : Nat) : Int) else law22_CostHolds_L3 n a0 a1 a2 a3 a4 a5 r1 p r3 few r5 r6 S (toI L) (i : Int) x T b13 i14 (c : Int) (((pre ++ [k]).length : Nat) : Int)) (fun n => ?_) (Ev.bind ew (Ev.yes (by rw [e5]; exact b3) nx)))
     simp only [law22_CostHolds_L3, d, g, cond_true, cond_false, Option.bind_some, jn, k0, kl, b, b2, gS, e3, e4]
    ·have cv : cov S i k = false := by rw [hcov, decide_eq_false q3, Bool.and_false]
     rw [cv] at h1 h2
     have b3 : decide ((i : Int) ≤ ((k + wn S[k] : Nat) : Int)) = false := decide_eq_false (by omega)
     have nx := ch_L3 L i x T b13 i14 hL hS hi hz hm l (pre ++ [k]) c (by rw [e]; exact ix_cons _ _ _) (by simp; omega) h1 h2 h
     refine Ev.step (Ev.of_eq (g := fun n => (law22_within n S[k]).bind fun r31 => bif decide ((i : Int) ≤ wr ((k : Int) + r31)) then law22_CostHolds_L3 n a0 a1 a2 a3 a4 a5 r1 p r3 few r5 r6 S (toI L) (i : Int) x T b13 i14 ((c + 1 : Nat) : Int) (((pre ++ [k]).length : Nat) : Int) else law22_CostHolds_L3 n a0 a1 a2 a3 a4 a5 r1 p r3 few r5 r6 S (toI L) (i : Int) x T b13 i14 (c : Int) (((pre ++ [k]).length : Nat) : Int)) (fun n => ?_) (Ev.bind ew (Ev.no (by rw [e5]; exact b3) nx)))
     simp only [law22_CostHolds_L3, d, g, cond_true, cond_false, Option.bind_some, jn, k0, kl, b, b2, gS, e3, e4]
   ·have b2 : decide ((i : Int) > (k : Int)) = false := decide_eq_false (by omega)
    have cv : cov S i k = false := by rw [hcov, decide_eq_false (by omega)]; rfl
    rw [cv] at h1 h2
    have nx := ch_L3 L i x T b13 i14 hL hS hi hz hm l (pre ++ [k]) c (by rw [e]; exact ix_cons _ _ _) (by simp; omega) h1 h2 h
    refine Ev.step (Ev.of_eq (fun n => ?_) nx)
    simp only [law22_CostHolds_L3, d, g, cond_true, cond_false, Option.bind_some, jn, k0, kl, b, b2, e3]
theorem ch_L0 (L : List Nat) (hL : L.length ≤ 1000000) (hS : S.length ≤ 900000) (hf : few.length ≤ 1000) (hz : ∀ y ∈ S, szS y ≤ 900000) (hm : ∀ k ∈ L, k < S.length)
  (hc : ∀ i, i < S.length → (L.filter (cov S i)).length ≤ 1 ∧ ∀ s, S[i]? = some s → hit s few = true → (L.filter (cov S i)).length = 1)
  (g1 g2 : Cx) (M : List Int) (e1 : Ev (fun n => cost_Guard n p few) g1) (e2 : Ev (fun n => cost_Guard n p (r6 ++ few)) g2) (e3 : Ev (fun n => cost_Wrapped n p (r6 ++ few)) M)
  (hend : Ev (fun n => law22_CostHolds_L4 n a0 a1 a2 a3 a4 a5 r1 p r3 few r5 r6 S (toI L) ((S.length : Nat) : Int) g1 g2 M 0) true) : ∀ (m i : Nat), S.length - i ≤ m → i ≤ S.length →
  Ev (fun n => law22_CostHolds_L0 n a0 a1 a2 a3 a4 a5 r1 p r3 few r5 r6 S (toI L) (i : Int)) true
 | m, i, h1, h2 => by
  by_cases hi : i < S.length
  ·match m, h1 with
   | 0, h1 => exact absurd h1 (by omega)
   | m + 1, h1 =>
    have d1 : decide ((i : Int) < ln S) = true := decide_eq_true (by show (i : Int) < (S.length : Int); omega)
    have gi : S[i]? = some S[i] := List.getElem?_eq_getElem hi
    have i1 : idx S (i : Int) = some S[i] := idx_of (by omega) (by rw [Int.toNat_natCast]; exact gi)
    have hs := hz _ (List.getElem_mem hi)
    have hE : szE S[i].E ≤ 900000 := by
     have : ∀ s : Stmt, szE s.E ≤ szS s := by intro s; cases s; simp only [szS]; omega
     have := this S[i]; omega
    have ht := tch_len S[i]
    have ih := ch_L0 L hL hS hf hz hm hc g1 g2 M e1 e2 e3 hend m (i + 1) (by omega) (by omega)
    obtain ⟨c1, c2⟩ := hc i hi
    have n1 := ch_L1 a0 a1 a2 a3 a4 a5 r1 p r3 few r5 r6 S (toI L) (i : Int) S[i] (tch S[i]) hf (by omega) (tch S[i]) [] false rfl (fun i14 =>
     ch_L3 a0 a1 a2 a3 a4 a5 r1 p r3 few r5 r6 S L i S[i] (tch S[i]) _ i14 hL (by omega) hi hz hm L [] 0 rfl (by omega) (by omega) (fun hb => by
      have := c2 _ gi (by unfold hit; simpa using hb)
      omega) ih)
    refine Ev.step (Ev.of_eq (g := fun n => (ref1_Touches n S[i]).bind fun r12 => law22_CostHolds_L1 n a0 a1 a2 a3 a4 a5 r1 p r3 few r5 r6 S (toI L) (i : Int) S[i] r12 false 0) (fun n => ?_) (Ev.bind (rtouch_ev S[i] (by omega)) n1))
    simp only [law22_CostHolds_L0, d1, cond_true, i1, Option.bind_some]
  ·have d1 : decide ((i : Int) < ln S) = false := decide_eq_false (by show ¬ (i : Int) < (S.length : Int); omega)
   have : i = S.length := by omega
   subst this
   refine Ev.step (Ev.of_eq (g := fun n => (cost_Guard n p few).bind fun r34 => (cost_Guard n p (r6 ++ few)).bind fun r35 => (cost_Wrapped n p (r6 ++ few)).bind fun r36 => law22_CostHolds_L4 n a0 a1 a2 a3 a4 a5 r1 p r3 few r5 r6 S (toI L) ((S.length : Nat) : Int) r34 r35 r36 0) (fun n => ?_) (Ev.bind e1 (Ev.bind e2 (Ev.bind e3 hend))))
   simp only [law22_CostHolds_L0, d1, cond_false]
theorem ch_L5 (L : List Int) (M : List Nat) (i10 : Int) (g1 g2 : Cx) (i37 : Int) (i : Nat) (hL : M.length ≤ 1000000) (hS : S.length ≤ 1000000) (hi : i < S.length) (hz : ∀ y ∈ S, szS y ≤ 900000) (hm : ∀ k ∈ M, k < S.length) :
  ∀ (l pre : List Nat) (b : Bool), M = pre ++ l → (b || l.any (cov S i)) = true →
  Ev (fun n => law22_CostHolds_L4 n a0 a1 a2 a3 a4 a5 r1 p r3 few r5 r6 S L i10 g1 g2 (toI M) (wr (i37 + 1))) true →
  Ev (fun n => law22_CostHolds_L5 n a0 a1 a2 a3 a4 a5 r1 p r3 few r5 r6 S L i10 g1 g2 (toI M) i37 (i : Int) b pre.length) true
 | [], pre, b, e, hb, h => by
  rw [List.append_nil] at e
  subst e
  rw [List.any_nil, Bool.or_false] at hb
  subst hb
  have d : decide (((M.length : Nat) : Int) < ln (toI M)) = false := decide_eq_false (by show ¬ ((M.length : Nat) : Int) < (((toI M).length : Nat) : Int); rw [toI_len]; omega)
  refine Ev.step (Ev.of_eq (fun n => ?_) h)
  simp only [law22_CostHolds_L5, d, cond_false, Bool.not_true]
 | k :: l, pre, b, e, hb, h => by
  have hp : pre.length + 1 ≤ 1000000 := by rw [e] at hL; simp at hL; omega
  have hk : k < S.length := hm k (by rw [e]; simp)
  have eL : toI M = toI pre ++ (k : Int) :: toI l := by rw [e, toI_app, toI_cons]
  have d : decide ((pre.length : Int) < ln (toI M)) = true := decide_eq_true (by show ((pre.length : Nat) : Int) < (((toI M).length : Nat) : Int); rw [toI_len, e]; simp; omega)
  have g : idx (toI M) (pre.length : Int) = some (k : Int) := by rw [eL, ← toI_len pre]; exact ix_get _ _ _
  have gk : S[k]? = some S[k] := List.getElem?_eq_getElem hk
  have gS : idx S (k : Int) = some S[k] := idx_of (by omega) (by rw [Int.toNat_natCast]; exact gk)
  have hwn := hz _ (List.getElem_mem hk)
  have hw := flat_len.1 S[k]
  rw [fl1_len] at hw
  have ew := hwithin_all.1 S[k] (by omega)
  have k0 : decide ((k : Int) < 0) = false := decide_eq_false (by omega)
  have kl : decide ((k : Int) ≥ ln S) = false := decide_eq_false (by show ¬ (k : Int) ≥ ((S.length : Nat) : Int); omega)
  have e3 : wr ((pre.length : Int) + 1) = ((pre ++ [k]).length : Int) := by rw [wr_of (by omega)]; simp
  have e5 : wr ((k : Int) + ((wn S[k] : Nat) : Int)) = ((k + wn S[k] : Nat) : Int) := by rw [wr_of (by omega)]; omega
  have hcov : cov S i k = (decide (k ≤ i) && decide (i ≤ k + wn S[k])) := by unfold cov; rw [gk]
  rw [List.any_cons, ← Bool.or_assoc] at hb
  have nx := ch_L5 L M i10 g1 g2 i37 i hL hS hi hz hm l (pre ++ [k]) (b || cov S i k) (by rw [e]; exact ix_cons _ _ _) hb h
  cases b
  ·rw [Bool.false_or, hcov] at nx
   by_cases q2 : k ≤ i
   ·have b2 : decide ((i : Int) ≥ (k : Int)) = true := decide_eq_true (by omega)
    have b3 : decide ((i : Int) ≤ ((k + wn S[k] : Nat) : Int)) = decide (i ≤ k + wn S[k]) := by
     by_cases q3 : i ≤ k + wn S[k]
     ·rw [decide_eq_true q3, decide_eq_true (by omega)]
     ·rw [decide_eq_false q3, decide_eq_false (by omega)]
    rw [decide_eq_true q2, Bool.true_and, ← b3] at nx
    refine Ev.step (Ev.of_eq (g := fun n => (law22_within n S[k]).bind fun r31 => law22_CostHolds_L5 n a0 a1 a2 a3 a4 a5 r1 p r3 few r5 r6 S L i10 g1 g2 (toI M) i37 (i : Int) (decide ((i : Int) ≤ wr ((k : Int) + r31))) (((pre ++ [k]).length : Nat) : Int)) (fun n => ?_) (Ev.bind ew (by rw [e5]; exact nx)))
    simp only [law22_CostHolds_L5, d, g, cond_true, cond_false, Option.bind_some, jn, k0, kl, b2, gS, e3]
   ·have b2 : decide ((i : Int) ≥ (k : Int)) = false := decide_eq_false (by omega)
    rw [decide_eq_false q2, Bool.false_and] at nx
    refine Ev.step (Ev.of_eq (fun n => ?_) nx)
    simp only [law22_CostHolds_L5, d, g, cond_true, cond_false, Option.bind_some, jn, k0, kl, b2, e3]
  ·rw [Bool.true_or] at nx
   refine Ev.step (Ev.of_eq (fun n => ?_) nx)
   simp only [law22_CostHolds_L5, d, g, cond_true, cond_false, Option.bind_some, jn, k0, kl, e3]
theorem ch_L4 (L M : List Nat) (i10 : Int) (g1 g2 : Nat) (hg1 : g1 ≤ 86093442000000) (hg2 : g2 ≤ 86093442000000) (hL : L.length ≤ 1000000) (hM : M.length ≤ 1000000) (hS : S.length ≤ 1000000) (hz : ∀ y ∈ S, szS y ≤ 900000) (hl : ∀ k ∈ L, k < S.length ∧ M.any (cov S k) = true) (hm : ∀ k ∈ M, k < S.length) :
  ∀ (l pre : List Nat), L = pre ++ l →
  Ev (fun n => law22_CostHolds_L4 n a0 a1 a2 a3 a4 a5 r1 p r3 few r5 r6 S (toI L) i10 ⟨FloatKind.f64.nearest (g1 : Int), 4607182418800017408⟩ ⟨FloatKind.f64.nearest (g2 : Int), 4607182418800017408⟩ (toI M) pre.length) true
 | [], pre, e => by
  rw [List.append_nil] at e
  subst e
  have d : decide (((L.length : Nat) : Int) < ln (toI L)) = false := decide_eq_false (by show ¬ ((L.length : Nat) : Int) < (((toI L).length : Nat) : Int); rw [toI_len]; omega)
  have one : (FloatKind.f64.format.order 4607182418800017408 4607182418800017408 == some .eq) = true := by kernel_rfl
  refine Ev.step (Ev.of_eq (g := fun n => (law22_known n).bind fun r50 => bif r50 then some true else some false) (fun n => ?_) (Ev.bind known22_ev (Ev.yes rfl (Ev.ret _))))
  simp only [law22_CostHolds_L4, d, cond_false, cond_true, jn, one, ord_ge0 g1 (by omega), ord_ge0 g2 (by omega), f2i_nat g1 (by omega), Option.bind_some, ord_self g1 (by omega)]
 | k :: l, pre, e => by
  have hp : pre.length + 1 ≤ 1000000 := by rw [e] at hL; simp at hL; omega
  obtain ⟨hk, hc⟩ := hl k (by rw [e]; simp)
  have eL : toI L = toI pre ++ (k : Int) :: toI l := by rw [e, toI_app, toI_cons]
  have d : decide ((pre.length : Int) < ln (toI L)) = true := decide_eq_true (by show ((pre.length : Nat) : Int) < (((toI L).length : Nat) : Int); rw [toI_len, e]; simp; omega)
  have g : idx (toI L) (pre.length : Int) = some (k : Int) := by rw [eL, ← toI_len pre]; exact ix_get _ _ _
  have e3 : wr ((pre.length : Int) + 1) = ((pre ++ [k]).length : Int) := by rw [wr_of (by omega)]; simp
  have nx := ch_L4 L M i10 g1 g2 hg1 hg2 hL hM hS hz hl hm l (pre ++ [k]) (by rw [e]; exact ix_cons _ _ _)
  have n5 := ch_L5 a0 a1 a2 a3 a4 a5 r1 p r3 few r5 r6 S (toI L) M i10 ⟨FloatKind.f64.nearest (g1 : Int), 4607182418800017408⟩ ⟨FloatKind.f64.nearest (g2 : Int), 4607182418800017408⟩ (pre.length : Int) k hM hS hk hz hm M [] false rfl (by rw [Bool.false_or]; exact hc) (by rw [e3]; exact nx)
  refine Ev.step (Ev.of_eq (fun n => ?_) n5)
  simp only [law22_CostHolds_L4, d, g, cond_true, Option.bind_some]
  rfl
end
theorem law22_CostHolds_true (a0 : Int) (a1 a2 a3 : List Act) (a4 a5 : Int) (h0 : okInt .i64 a0) (h1 : okActs a1) (h2 : okActs a2) (h3 : okActs a3) (h4 : okInt .i64 a4) (h5 : okInt .i64 a5) : ∃ n, law22_CostHolds n a0 a1 a2 a3 a4 a5 = some true := by
 obtain ⟨w, hw⟩ := Good_ev a0 a1 a2 a3 4 (by omega)
 obtain ⟨⟨D, ts⟩, i, e, hpar, ok1⟩ := parse_ev w
 obtain ⟨okD, okn, okz, okw⟩ := ok1
 simp only at okD okn okz okw
 have hread : Ev (fun n => law22_read n w) ⟨D, ts⟩ := Ev.of_eq (g := fun n => (ref1_Parse n w).bind fun r1 => some r1.1) (fun n => by simp only [law22_read]) (Ev.bind hpar (Ev.ret _))
 have p4 : ∀ n, hand_Pick n a4 64 = some (a4 % 64) := fun n => pick_eq n _ 64 (by omega) (by omega)
 have p5 : ∀ n, hand_Pick n a5 64 = some (a5 % 64) := fun n => pick_eq n _ 64 (by omega) (by omega)
 obtain ⟨few, s1, s2⟩ := some_L0 (a4 % 64) 6 0 [] (by omega) (by omega) (by simp)
 have hfew : Ev (fun n => law22_some n (a4 % 64)) few := Ev.of_eq (fun n => by simp only [law22_some]; rfl) s1
 obtain ⟨mor, m1, m2⟩ := some_L0 (a5 % 64) 6 0 [] (by omega) (by omega) (by simp)
 have hmor : Ev (fun n => law22_some n (a5 % 64)) mor := Ev.of_eq (fun n => by simp only [law22_some]; rfl) m1
 have rm : room s_string.i1.bytes mor.length few.length = true := roomW _ _ (by omega)
 have hml : (mor ++ few).length ≤ 4000000 := by simp; omega
 obtain ⟨g, g1, _, g3⟩ := Guard_ev D ts few (by omega) (by omega) okw
 obtain ⟨q, q1, _, q3⟩ := Guard_ev D ts (mor ++ few) hml (by omega) okw
 have l1 := len_T ts
 have w1 := wrp_ev D ts few (by omega) (by omega)
 have w2 := wrp_ev D ts (mor ++ few) hml (by omega)
 have hz : ∀ y ∈ flats ts, szS y ≤ 900000 := fun x hx => by have := sz_flats ts x hx; omega
 have len : ∀ nm m i, (wrp (flats ts) nm m i).length ≤ m := by
  intro nm m
  induction m with
  | zero => intro i; simp [wrp]
  | succ m ih =>
   intro i
   rw [wrp]
   cases g : (flats ts)[i]? with
   | none => simp
   | some s =>
    cases c : hit s nm
    ·simp only [c, cond_false]; have := ih (i + 1); omega
    ·simp only [c, cond_true, List.length_cons]; have := ih (i + (wn s + 1)); omega
 have mem : ∀ nm, ∀ k ∈ wrp (flats ts) nm (flats ts).length 0, k < (flats ts).length := by
  intro nm k hk
  obtain ⟨_, s, hs, _⟩ := wrp_lo _ _ _ _ _ hk
  exact (List.getElem?_eq_some_iff.1 hs).1
 have lf := len few (flats ts).length 0
 have lm := len (mor ++ few) (flats ts).length 0
 refine Ev.get ?_
 refine Ev.of_eq (g := fun n => (hand_Good n a0 a1 a2 a3 4).bind fun r1 => (law22_read n r1).bind fun r2 => (law22_some n (a4 % 64)).bind fun r4 => (law22_some n (a5 % 64)).bind fun r6 => bif room s_string.i1.bytes r6.length r4.length then ((ref1_List n r2).bind fun r8 => (cost_Wrapped n r2 r4).bind fun r9 => law22_CostHolds_L0 n a0 a1 a2 a3 a4 a5 r1 r2 (a4 % 64) r4 (a5 % 64) r6 r8 r9 0) else none) (fun n => by simp only [law22_CostHolds, p4, p5, Option.bind_some]) ?_
 refine Ev.bind hw (Ev.bind hread (Ev.bind hfew (Ev.bind hmor (Ev.yes rm (Ev.bind (rList_ev D ts (by omega)) (Ev.bind w1 ?_))))))
 refine ch_L0 a0 a1 a2 a3 a4 a5 w ⟨D, ts⟩ (a4 % 64) few (a5 % 64) mor (flats ts) (wrp (flats ts) few (flats ts).length 0) (by omega) (by omega) (by omega) hz (mem few) (fun i hi => wrp_cnt (flats ts) few (flats ts).length 0 i (by omega) (by omega)) _ _ _ g1 q1 w2 ?_ (flats ts).length 0 (by omega) (by omega)
 refine ch_L4 a0 a1 a2 a3 a4 a5 w ⟨D, ts⟩ (a4 % 64) few (a5 % 64) mor (flats ts) (wrp (flats ts) few (flats ts).length 0) (wrp (flats ts) (mor ++ few) (flats ts).length 0) _ g q g3 q3 (by omega) (by omega) (by omega) hz (fun k hk => ⟨mem few k hk, ?_⟩) (mem (mor ++ few)) _ [] rfl
 obtain ⟨_, s, hs, hh⟩ := wrp_lo _ _ _ _ _ hk
 have := (wrp_cnt (flats ts) (mor ++ few) (flats ts).length 0 k (by omega) (by omega)).2 s hs (hit_more s mor few hh)
 rw [List.any_eq_true]
 cases hF : (wrp (flats ts) (mor ++ few) (flats ts).length 0).filter (cov (flats ts) k) with
 | nil => rw [hF] at this; cases this
 | cons y r =>
  have hy : y ∈ (wrp (flats ts) (mor ++ few) (flats ts).length 0).filter (cov (flats ts) k) := by rw [hF]; simp
  exact ⟨y, (List.mem_filter.1 hy).1, (List.mem_filter.1 hy).2⟩
end Go.Su.Ytfmgnboplbgniaa
