/-
  Names: where they are declared, whether they are right.
-/
import Derived.Test.YtfmgnboplbgniaaPlParse
import Derived.Test.YtfmgnboplbgniaaPlTouch
import Derived.Test.YtfmgnboplbgniaaPlList
import Derived.KernelRfl
namespace Go.Su.Ytfmgnboplbgniaa
open Go.Mx Go.Proofs
set_option linter.unusedVariables false
set_option linter.unusedSimpArgs false
set_option maxHeartbeats 4000000

def sameAt (z y : Cx) : Bool := (FloatKind.f64.format.order z.re y.re == some .eq) && (FloatKind.f64.format.order z.im y.im == some .eq)
theorem ordN : ((List.range 6101).all fun k => FloatKind.f64.format.order (FloatKind.f64.nearest (k : Nat)) (FloatKind.f64.nearest (k : Nat)) == some .eq) = true := by kernel_rfl
theorem sameAt_self {z : Cx} (h : okA z) : sameAt z z = true := by
  obtain ⟨p, q, hp, hq, rfl⟩ := h
  have := List.all_eq_true.1 ordN
  unfold sameAt
  rw [this p (List.mem_range.2 (by omega)), this q (List.mem_range.2 (by omega))]; rfl
theorem okA_c0 : okA c0 := by
  refine ⟨0, 0, by omega, by omega, ?_⟩
  have : FloatKind.f64.nearest ((0 : Nat) : Int) = 0 := by kernel_rfl
  rw [this]

theorem okA_flat : (∀ s : Stmt, ∀ d, okA s.At → wfl d s.Body → wfl d s.Else → ∀ x ∈ fl1 s, okA x.At) ∧ ∀ l : List Stmt, ∀ d, wfl d l → ∀ x ∈ flat l, okA x.At := by
  refine stmt_ind ?_ ?_ ?_
  · intro k w v m e b l a hb hl d h1 h2 h3 x hx
    rw [fl1, List.mem_cons, List.mem_append] at hx
    rcases hx with rfl | hx | hx
    · exact h1
    · exact hb d h2 x hx
    · exact hl d h3 x hx
  · intro d _ x hx; simp [flat] at hx
  · intro s r hs hr d h x hx
    cases d with
    | zero => exact absurd (show s :: r = [] from h) (by simp)
    | succ d =>
      rw [flat, List.mem_append] at hx
      rcases hx with hx | hx
      · obtain ⟨q1, q2, q3, q4, q5⟩ := h s (by simp)
        exact hs d q1 q4 q5 x hx
      · exact hr (d + 1) (fun y hy => h y (by simp [hy])) x hx
theorem okA_flats : ∀ ts : List (List Stmt), (∀ t ∈ ts, wfl 8 t) → ∀ x ∈ flats ts, okA x.At
  | [], _, x, hx => by simp [flats] at hx
  | t :: r, h, x, hx => by
    rw [flats, List.mem_append] at hx
    rcases hx with hx | hx
    · exact okA_flat.2 t 8 (h t (by simp)) x hx
    · exact okA_flats r (fun t ht => h t (by simp [ht])) x hx

def fnd : Nat → List Decl → ByteArray → Int
  | _, [], _ => -1
  | i, d :: r, w => if bytesEq d.Name w = true then (i : Int) else fnd (i + 1) r w
theorem fnd_bd : ∀ (l : List Decl) (i : Nat) (w : ByteArray), fnd i l w = -1 ∨ ∃ k : Nat, fnd i l w = k ∧ i ≤ k ∧ k < i + l.length
  | [], i, w => .inl rfl
  | d :: r, i, w => by
    rw [fnd]
    split
    · exact .inr ⟨i, rfl, Nat.le_refl _, by simp⟩
    · rcases fnd_bd r (i + 1) w with h | ⟨k, h1, h2, h3⟩
      · exact .inl h
      · exact .inr ⟨k, h1, by omega, by simp; omega⟩

theorem tfind_L0 (w : ByteArray) : ∀ (l pre : List Decl), (pre ++ l).length ≤ 1000000 → Ev (fun n => IndexFunc_Decl_fnames_Find_1_L0 n (pre ++ l) w pre.length) (fnd pre.length l w)
  | [], pre, h => Ev.step (Ev.of_eq (g := fun n => some (-1)) (fun n => by simp only [IndexFunc_Decl_fnames_Find_1_L0, List.append_nil, ix_ge, cond_false]) (Ev.ret _))
  | d :: r, pre, h => by
    have hp : pre.length + 1 ≤ 1000000 := by simp at h; omega
    rw [fnd]
    cases hb : bytesEq d.Name w
    · have nx := tfind_L0 w r (pre ++ [d]) (by rw [← ix_cons]; exact h)
      refine Ev.step (Ev.of_eq (fun n => ?_) (by simpa using nx))
      simp only [IndexFunc_Decl_fnames_Find_1_L0, ix_lt, ix_get, cond_true, Option.bind_some, names_Find_1, hb, cond_false]
      rw [ix_wr pre d (by omega)]; simp
    · refine Ev.step (Ev.of_eq (g := fun n => some (pre.length : Int)) (fun n => ?_) (by simpa using Ev.ret _))
      simp only [IndexFunc_Decl_fnames_Find_1_L0, ix_lt, ix_get, cond_true, Option.bind_some, names_Find_1, hb]
theorem tfind_ev (D : List Decl) (ts : List (List Stmt)) (w : ByteArray) (h : D.length ≤ 1000000) : Ev (fun n => names_Find n ⟨D, ts⟩ w) (fnd 0 D w) :=
  Ev.of_eq (g := fun n => (IndexFunc_Decl_fnames_Find_1_L0 n D w 0).bind fun r1 => some r1) (fun n => by simp only [names_Find, IndexFunc_Decl_fnames_Find_1]) (Ev.bind (tfind_L0 w D [] (by simpa using h)) (Ev.ret _))
theorem rfind_L0 (w : ByteArray) (ts : List (List Stmt)) : ∀ (l pre : List Decl), (pre ++ l).length ≤ 1000000 → Ev (fun n => ref8_Find_L0 n ⟨pre ++ l, ts⟩ w pre.length) (fnd pre.length l w)
  | [], pre, h => Ev.step (Ev.of_eq (g := fun n => some (-1)) (fun n => by simp only [ref8_Find_L0, List.append_nil, ix_ge, cond_false]) (Ev.ret _))
  | d :: r, pre, h => by
    have hp : pre.length + 1 ≤ 1000000 := by simp at h; omega
    rw [fnd]
    cases hb : bytesEq d.Name w
    · have nx := rfind_L0 w ts r (pre ++ [d]) (by rw [← ix_cons]; exact h)
      refine Ev.step (Ev.of_eq (fun n => ?_) (by simpa using nx))
      simp only [ref8_Find_L0, ix_lt, ix_get, cond_true, Option.bind_some, hb, cond_false]
      rw [ix_wr pre d (by omega)]; simp
    · refine Ev.step (Ev.of_eq (g := fun n => some (pre.length : Int)) (fun n => ?_) (by simpa using Ev.ret _))
      simp only [ref8_Find_L0, ix_lt, ix_get, cond_true, Option.bind_some, hb]
theorem rfind_ev (D : List Decl) (ts : List (List Stmt)) (w : ByteArray) (h : D.length ≤ 1000000) : Ev (fun n => ref8_Find n ⟨D, ts⟩ w) (fnd 0 D w) :=
  Ev.of_eq (fun n => by simp only [ref8_Find]; rfl) (rfind_L0 w ts D [] (by simpa using h))

theorem kind_ev (D : List Decl) (ts : List (List Stmt)) (w : ByteArray) (h : D.length ≤ 1000000) : ∃ k, Ev (fun n => names_kind n ⟨D, ts⟩ w) k ∧ Ev (fun n => ref8_kindOf n ⟨D, ts⟩ w) k := by
  rcases fnd_bd D 0 w with hf | ⟨k, hk, _, hlt⟩
  · have d : decide (fnd 0 D w < 0) = true := decide_eq_true (by omega)
    exact ⟨0, Ev.of_eq (g := fun n => (names_Find n ⟨D, ts⟩ w).bind fun r1 => bif decide (r1 < 0) then some 0 else (idx D r1).bind fun x2 => some x2.Kind) (fun n => by simp only [names_kind]) (Ev.bind (tfind_ev D ts w h) (Ev.yes d (Ev.ret _))),
      Ev.of_eq (g := fun n => (ref8_Find n ⟨D, ts⟩ w).bind fun r1 => bif decide (r1 < 0) then some 0 else (idx D r1).bind fun x2 => some x2.Kind) (fun n => by simp only [ref8_kindOf]) (Ev.bind (rfind_ev D ts w h) (Ev.yes d (Ev.ret _)))⟩
  · have d : decide (fnd 0 D w < 0) = false := decide_eq_false (by omega)
    have hi : idx D (fnd 0 D w) = some (D[k]'(by omega)) := by rw [hk]; exact idx_of (by omega) (by rw [Int.toNat_natCast]; exact List.getElem?_eq_getElem (by omega))
    exact ⟨(D[k]'(by omega)).Kind, Ev.of_eq (g := fun n => (names_Find n ⟨D, ts⟩ w).bind fun r1 => bif decide (r1 < 0) then some 0 else (idx D r1).bind fun x2 => some x2.Kind) (fun n => by simp only [names_kind]) (Ev.bind (tfind_ev D ts w h) (Ev.no d (Ev.opt hi (Ev.ret _)))),
      Ev.of_eq (g := fun n => (ref8_Find n ⟨D, ts⟩ w).bind fun r1 => bif decide (r1 < 0) then some 0 else (idx D r1).bind fun x2 => some x2.Kind) (fun n => by simp only [ref8_kindOf]) (Ev.bind (rfind_ev D ts w h) (Ev.no d (Ev.opt hi (Ev.ret _))))⟩

def shd (k : Int) : Bool := (k == 1) || ((k == 2) || (k == 3))
theorem tshared (n : Nat) (k : Int) : names_Shared n k = some (shd k) := by
  unfold names_Shared jn shd
  cases (k == 1) <;> cases (k == 2) <;> rfl
theorem rshared (n : Nat) (k : Int) : ref8_Shared n k = some (shd k) := by
  unfold ref8_Shared jn shd
  cases (k == 1) <;> cases (k == 2) <;> rfl
theorem rplain (n : Nat) (k : Int) : ref8_plain n k = some (shd k || (k == 4)) := by
  unfold ref8_plain jn
  rw [rshared]
  cases shd k <;> rfl

theorem right_L0 (D : List Decl) (ts : List (List Stmt)) (h : D.length ≤ 1000000) (s : Stmt) : ∀ (l pre : List ByteArray), (pre ++ l).length ≤ 3000000 → ∃ b, Ev (fun n => names_right_L0 n ⟨D, ts⟩ s (pre ++ l) pre.length) b ∧ Ev (fun n => ref8_right_L0 n ⟨D, ts⟩ s (pre ++ l) pre.length) b
  | [], pre, hl => by
    obtain ⟨k, k1, k2⟩ := kind_ev D ts s.Name h
    by_cases c1 : s.Kind = 2 ∨ s.Kind = 3
    · refine ⟨(k == 5), Ev.step (Ev.of_eq (g := fun n => (names_kind n ⟨D, ts⟩ s.Name).bind fun r10 => some (r10 == 5)) (fun n => ?_) (Ev.bind k1 (Ev.ret _))), Ev.step (Ev.of_eq (g := fun n => (ref8_kindOf n ⟨D, ts⟩ s.Name).bind fun r10 => some (r10 == 5)) (fun n => ?_) (Ev.bind k2 (Ev.ret _)))⟩
      · rcases c1 with c | c <;> simp only [names_right_L0, List.append_nil, ix_ge, cond_false, jn, c] <;> rfl
      · rcases c1 with c | c <;> simp only [ref8_right_L0, List.append_nil, ix_ge, cond_false, jn, c] <;> rfl
    · have b2 : (s.Kind == 2) = false := by simp; omega
      have b3 : (s.Kind == 3) = false := by simp; omega
      by_cases c2 : s.Kind = 4 ∨ s.Kind = 5
      · refine ⟨(k == 6), Ev.step (Ev.of_eq (g := fun n => (names_kind n ⟨D, ts⟩ s.Name).bind fun r10 => some (r10 == 6)) (fun n => ?_) (Ev.bind k1 (Ev.ret _))), Ev.step (Ev.of_eq (g := fun n => (ref8_kindOf n ⟨D, ts⟩ s.Name).bind fun r10 => some (r10 == 6)) (fun n => ?_) (Ev.bind k2 (Ev.ret _)))⟩
        · rcases c2 with c | c <;> simp only [names_right_L0, List.append_nil, ix_ge, cond_false, jn, c] <;> rfl
        · rcases c2 with c | c <;> simp only [ref8_right_L0, List.append_nil, ix_ge, cond_false, jn, c] <;> rfl
      · have b4 : (s.Kind == 4) = false := by simp; omega
        have b5 : (s.Kind == 5) = false := by simp; omega
        exact ⟨true, Ev.step (Ev.of_eq (g := fun n => some true) (fun n => by simp only [names_right_L0, List.append_nil, ix_ge, cond_false, jn, b2, b3, b4, b5]) (Ev.ret _)), Ev.step (Ev.of_eq (g := fun n => some true) (fun n => by simp only [ref8_right_L0, List.append_nil, ix_ge, cond_false, jn, b2, b3, b4, b5]) (Ev.ret _))⟩
  | x :: r, pre, hl => by
    have hp : pre.length + 1 ≤ 3000000 := by simp at hl; omega
    obtain ⟨k, k1, k2⟩ := kind_ev D ts x h
    obtain ⟨b, m1, m2⟩ := right_L0 D ts h s r (pre ++ [x]) (by rw [← ix_cons]; exact hl)
    have e1 : ∀ n, names_right_L0 (n + 1) ⟨D, ts⟩ s (pre ++ x :: r) pre.length = (names_kind n ⟨D, ts⟩ x).bind fun r4 => bif (shd r4 || (r4 == 4)) then names_right_L0 n ⟨D, ts⟩ s ((pre ++ [x]) ++ r) ((pre ++ [x]).length) else some false := by
      intro n
      simp only [names_right_L0, ix_lt, ix_get, cond_true, Option.bind_some, jn, tshared, ix_wr pre x (by omega), ← ix_cons]
      congr 1; funext r4
      cases shd r4
      · cases hq : (r4 == 4) <;> simp [bne, hq]
      · simp
    have e2 : ∀ n, ref8_right_L0 (n + 1) ⟨D, ts⟩ s (pre ++ x :: r) pre.length = (ref8_kindOf n ⟨D, ts⟩ x).bind fun r4 => bif (shd r4 || (r4 == 4)) then ref8_right_L0 n ⟨D, ts⟩ s ((pre ++ [x]) ++ r) ((pre ++ [x]).length) else some false := by
      intro n
      simp only [ref8_right_L0, ix_lt, ix_get, cond_true, Option.bind_some, rplain, ix_wr pre x (by omega), ← ix_cons]
      congr 1; funext r4
      cases (shd r4 || (r4 == 4)) <;> rfl
    cases hc : (shd k || (k == 4))
    · exact ⟨false, Ev.step (Ev.of_eq e1 (Ev.bind k1 (Ev.no hc (Ev.ret _)))), Ev.step (Ev.of_eq e2 (Ev.bind k2 (Ev.no hc (Ev.ret _))))⟩
    · exact ⟨b, Ev.step (Ev.of_eq e1 (Ev.bind k1 (Ev.yes hc m1))), Ev.step (Ev.of_eq e2 (Ev.bind k2 (Ev.yes hc m2)))⟩

theorem szE_szS' (s : Stmt) : szE s.E ≤ szS s := by cases s; simp only [szS]; omega
theorem tch_len' (s : Stmt) : (tch s).length ≤ szS s + 1 := by
  have := nm_len.1 s.E
  have := szE_szS' s
  unfold tch
  rw [List.length_append]
  split <;> split <;> (try split) <;> simp <;> omega

theorem right_ev (D : List Decl) (ts : List (List Stmt)) (h : D.length ≤ 1000000) (s : Stmt) (hs : szS s ≤ 1000000) : ∃ b, Ev (fun n => names_right n ⟨D, ts⟩ s) b ∧ Ev (fun n => ref8_right n ⟨D, ts⟩ s) b := by
  have := szE_szS' s
  have := tch_len' s
  obtain ⟨b, m1, m2⟩ := right_L0 D ts h s (tch s) [] (by simp; omega)
  exact ⟨b, Ev.of_eq (g := fun n => (tree_Touches n s).bind fun r1 => names_right_L0 n ⟨D, ts⟩ s r1 0) (fun n => by simp only [names_right]) (Ev.bind (ttouch_ev s (by omega)) m1),
    Ev.of_eq (g := fun n => (ref1_Touches n s).bind fun r1 => ref8_right_L0 n ⟨D, ts⟩ s r1 0) (fun n => by simp only [ref8_right]) (Ev.bind (rtouch_ev s (by omega)) m2)⟩

theorem check_L1 (D : List Decl) (ts : List (List Stmt)) (h : D.length ≤ 1000000) (i1 j1 : Int) (all : List Stmt) (hn : all.length ≤ 1000000) (hz : ∀ x ∈ all, szS x ≤ 1000000 ∧ okA x.At) : ∀ (l pre : List Stmt), all = pre ++ l →
    ∃ z e, Ev (fun n => names_Check_L1 n ⟨D, ts⟩ i1 all pre.length) (z, e) ∧ Ev (fun n => ref8_Names_L1 n ⟨D, ts⟩ j1 all pre.length) (z, e) ∧ okA z
  | [], pre, e => by
    rw [List.append_nil] at e
    have l1 : decide ((pre.length : Int) < ln all) = false := by rw [e]; exact ix_ge _
    exact ⟨c0, 0, Ev.step (Ev.of_eq (g := fun n => some (c0, 0)) (fun n => by simp only [names_Check_L1, l1, cond_false]) (Ev.ret _)), Ev.step (Ev.of_eq (g := fun n => some (c0, 0)) (fun n => by simp only [ref8_Names_L1, l1, cond_false]) (Ev.ret _)), okA_c0⟩
  | x :: r, pre, e => by
    have hp : pre.length + 1 ≤ 1000000 := by have := congrArg List.length e; simp at this; omega
    have l1 : decide ((pre.length : Int) < ln all) = true := by rw [e]; exact ix_lt _ _ _
    have l2 : idx all (pre.length : Int) = some x := by rw [e]; exact ix_get _ _ _
    have hw := ix_wr pre x (by omega)
    obtain ⟨q1, q2⟩ := hz x (by rw [e]; simp)
    obtain ⟨b, m1, m2⟩ := right_ev D ts h x q1
    have e1 : ∀ n, names_Check_L1 (n + 1) ⟨D, ts⟩ i1 all pre.length = (names_right n ⟨D, ts⟩ x).bind fun r7 => bif !r7 then some (x.At, 3) else names_Check_L1 n ⟨D, ts⟩ i1 all ((pre ++ [x]).length) := fun n => by
      simp only [names_Check_L1, l1, l2, cond_true, Option.bind_some, hw]
    have e2 : ∀ n, ref8_Names_L1 (n + 1) ⟨D, ts⟩ j1 all pre.length = (ref8_right n ⟨D, ts⟩ x).bind fun r7 => bif !r7 then some (x.At, 3) else ref8_Names_L1 n ⟨D, ts⟩ j1 all ((pre ++ [x]).length) := fun n => by
      simp only [ref8_Names_L1, l1, l2, cond_true, Option.bind_some, hw]
    cases b
    · exact ⟨x.At, 3, Ev.step (Ev.of_eq e1 (Ev.bind m1 (Ev.yes rfl (Ev.ret _)))), Ev.step (Ev.of_eq e2 (Ev.bind m2 (Ev.yes rfl (Ev.ret _)))), q2⟩
    · obtain ⟨z, e', n1, n2, n3⟩ := check_L1 D ts h i1 j1 all hn hz r (pre ++ [x]) (by rw [e]; exact ix_cons _ _ _)
      exact ⟨z, e', Ev.step (Ev.of_eq e1 (Ev.bind m1 (Ev.no rfl n1))), Ev.step (Ev.of_eq e2 (Ev.bind m2 (Ev.no rfl n2))), n3⟩

theorem check_L0 (D : List Decl) (ts : List (List Stmt)) (h : D.length ≤ 1000000) (hd : ∀ d ∈ D, okA d.At) (hT : szT ts ≤ 1000000) (hw8 : ∀ t ∈ ts, wfl 8 t) : ∀ (l pre : List Decl), D = pre ++ l →
    ∃ z e, Ev (fun n => names_Check_L0 n ⟨D, ts⟩ pre.length) (z, e) ∧ Ev (fun n => ref8_Names_L0 n ⟨D, ts⟩ pre.length) (z, e) ∧ okA z
  | [], pre, e => by
    rw [List.append_nil] at e
    have hlen := len_T ts
    have l1 : decide ((pre.length : Int) < ln D) = false := by rw [e]; exact ix_ge _
    obtain ⟨z, e', n1, n2, n3⟩ := check_L1 D ts h (pre.length : Int) (pre.length : Int) (flats ts) (by omega) (fun x hx => ⟨by have := sz_flats ts x hx; omega, okA_flats ts hw8 x hx⟩) (flats ts) [] rfl
    exact ⟨z, e', Ev.step (Ev.of_eq (g := fun n => (tree_List n ⟨D, ts⟩).bind fun r4 => names_Check_L1 n ⟨D, ts⟩ (pre.length : Int) r4 0) (fun n => by simp only [names_Check_L0, l1, cond_false]) (Ev.bind (List_ev D ts hT) n1)),
      Ev.step (Ev.of_eq (g := fun n => (ref1_List n ⟨D, ts⟩).bind fun r4 => ref8_Names_L1 n ⟨D, ts⟩ (pre.length : Int) r4 0) (fun n => by simp only [ref8_Names_L0, l1, cond_false]) (Ev.bind (rList_ev D ts hT) n2)), n3⟩
  | x :: r, pre, e => by
    have hp : pre.length + 1 ≤ 1000000 := by have := congrArg List.length e; simp at this; omega
    have l1 : decide ((pre.length : Int) < ln D) = true := by rw [e]; exact ix_lt _ _ _
    have l2 : idx D (pre.length : Int) = some x := by rw [e]; exact ix_get _ _ _
    have hw := ix_wr pre x (by omega)
    have e1 : ∀ n, names_Check_L0 (n + 1) ⟨D, ts⟩ pre.length = (names_Find n ⟨D, ts⟩ x.Name).bind fun r3 => bif decide (r3 < (pre.length : Int)) then some (x.At, 3) else names_Check_L0 n ⟨D, ts⟩ ((pre ++ [x]).length) := fun n => by
      simp only [names_Check_L0, l1, l2, cond_true, Option.bind_some, hw]
    have e2 : ∀ n, ref8_Names_L0 (n + 1) ⟨D, ts⟩ pre.length = (ref8_Find n ⟨D, ts⟩ x.Name).bind fun r3 => bif decide (r3 < (pre.length : Int)) then some (x.At, 3) else ref8_Names_L0 n ⟨D, ts⟩ ((pre ++ [x]).length) := fun n => by
      simp only [ref8_Names_L0, l1, l2, cond_true, Option.bind_some, hw]
    cases hc : decide (fnd 0 D x.Name < (pre.length : Int))
    · obtain ⟨z, e', n1, n2, n3⟩ := check_L0 D ts h hd hT hw8 r (pre ++ [x]) (by rw [e]; exact ix_cons _ _ _)
      exact ⟨z, e', Ev.step (Ev.of_eq e1 (Ev.bind (tfind_ev D ts x.Name h) (Ev.no hc n1))), Ev.step (Ev.of_eq e2 (Ev.bind (rfind_ev D ts x.Name h) (Ev.no hc n2))), n3⟩
    · exact ⟨x.At, 3, Ev.step (Ev.of_eq e1 (Ev.bind (tfind_ev D ts x.Name h) (Ev.yes hc (Ev.ret _)))), Ev.step (Ev.of_eq e2 (Ev.bind (rfind_ev D ts x.Name h) (Ev.yes hc (Ev.ret _)))), hd x (by rw [e]; simp)⟩
theorem check_ev (D : List Decl) (ts : List (List Stmt)) (h : D.length ≤ 1000000) (hd : ∀ d ∈ D, okA d.At) (hT : szT ts ≤ 1000000) (hw8 : ∀ t ∈ ts, wfl 8 t) : ∃ z e, Ev (fun n => names_Check n ⟨D, ts⟩) (z, e) ∧ Ev (fun n => ref8_Names n ⟨D, ts⟩) (z, e) ∧ okA z := by
  obtain ⟨z, e, n1, n2, n3⟩ := check_L0 D ts h hd hT hw8 D [] rfl
  exact ⟨z, e, Ev.of_eq (fun n => by simp only [names_Check]; rfl) n1, Ev.of_eq (fun n => by simp only [ref8_Names]; rfl) n2, n3⟩
end Go.Su.Ytfmgnboplbgniaa
