/-
  Programs as trees: copies, lists of all statements, threads.
-/
import Derived.Test.YtfmgnboplbgniaaPlIx
namespace Go.Su.Ytfmgnboplbgniaa
open Go.Mx Go.Proofs
set_option linter.unusedVariables false
set_option linter.unusedSimpArgs false
set_option maxHeartbeats 4000000

mutual
def szS : Stmt → Nat
  | ⟨_, _, _, _, e, b, l, _⟩ => 1 + szE e + (szSl b + szSl l)
def szSl : List Stmt → Nat
  | [] => 0
  | s :: r => szS s + szSl r
end
mutual
def fl1 : Stmt → List Stmt
  | ⟨k, w, v, m, e, b, l, a⟩ => ⟨k, w, v, m, e, b, l, a⟩ :: (flat b ++ flat l)
def flat : List Stmt → List Stmt
  | [] => []
  | s :: r => fl1 s ++ flat r
end
theorem len_El : ∀ l : List Expr, l.length ≤ szEl l
  | [] => by simp
  | e :: r => by
    have := len_El r
    cases e
    rw [List.length_cons, szEl, szE]; omega
theorem len_Sl : ∀ l : List Stmt, l.length ≤ szSl l
  | [] => by simp
  | e :: r => by
    have := len_Sl r
    cases e
    rw [List.length_cons, szSl, szS]; omega
theorem flat_len : (∀ s, (fl1 s).length ≤ szS s) ∧ ∀ l, (flat l).length ≤ szSl l := by
  refine stmt_ind ?_ (by simp [flat]) ?_
  · intro k w v m e b l a h1 h2
    rw [fl1, szS]; simp only [List.length_cons, List.length_append]; omega
  · intro s r h1 h2
    rw [flat, szSl, List.length_append]; omega
theorem fl1_eq (s : Stmt) : fl1 s = s :: (flat s.Body ++ flat s.Else) := by cases s; rw [fl1]
theorem szS_wt : (∀ s d, okS d s → szS s ≤ wt s) ∧ ∀ l d, okSl d l → szSl l ≤ wtl l := by
  refine stmt_ind ?_ (by simp [szSl, wtl]) ?_
  · intro k w v m e b l a hb hl d h
    rw [okS] at h
    obtain ⟨h1, _, h3, h4, h5⟩ := h
    have hb := hb _ h4
    have hl := hl _ h5
    rw [szS, wt]; omega
  · intro s r h1 h2 d h
    rw [okSl] at h
    have := h1 _ h.1
    have := h2 _ h.2
    rw [szSl, wtl]; omega
theorem set_self {α : Type} (pre : List α) (x : α) (r : List α) : (pre ++ x :: r).set (pre.length : Int).toNat x = pre ++ x :: r := by
  simp [List.set_append]
theorem sub_all {α : Type} (l : List α) : sub l 0 (ln l) = some l := by
  have := sub_of (l := l) (a := 0) (b := l.length) (by omega) (by omega)
  simpa using this

theorem copyE_ev : (∀ e, szE e ≤ 1000000 → Ev (fun n => tree_copyExpr n e) e) ∧
    ∀ l, ∀ (e : Expr) (r1 : List Expr) (pre : List Expr), szEl l ≤ 1000000 → (pre ++ l).length ≤ 1000000 → Ev (fun n => tree_copyExpr_L0 n e r1 (pre ++ l) (pre ++ l) b0 pre.length) ⟨e.Kind, e.N, e.Name, pre ++ l⟩ := by
  refine expr_ind ?_ ?_ ?_
  · intro k m w l ih h
    rw [szE] at h
    have hl := len_El l
    have hr : room s_Expr.i1.bytes ([] : List Expr).length l.length = true := room_of (by
      have : s_Expr.i1.bytes = 56 := rfl
      rw [this]; simp only [List.length_nil]; omega)
    refine Ev.step (Ev.of_eq (g := fun n => tree_copyExpr_L0 n ⟨k, m, w, l⟩ l l l b0 0) (fun n => ?_) ?_)
    · simp only [tree_copyExpr, Clone_Expr, Clip_Expr_o, hr, cond_true, Option.bind_some]; rfl
    · exact ih ⟨k, m, w, l⟩ l [] (by omega) (by simp; omega)
  · intro e r1 pre h1 h2
    refine Ev.step (Ev.of_eq (g := fun n => some ⟨e.Kind, e.N, e.Name, pre ++ []⟩) (fun n => ?_) (Ev.ret _))
    simp only [tree_copyExpr_L0, List.append_nil, ix_ge, cond_false]
  · intro x r ihx ihr e r1 pre h1 h2
    rw [szEl] at h1
    have hp : pre.length ≤ 1000000 := by simp at h2; omega
    refine Ev.step (Ev.of_eq (g := fun n => (tree_copyExpr n x).bind fun r8 => tree_copyExpr_L0 n e r1 (pre ++ x :: r) ((pre ++ x :: r).set (pre.length : Int).toNat r8) b0 ((pre ++ [x]).length)) (fun n => ?_) (Ev.bind (ihx (by omega)) ?_))
    · simp only [tree_copyExpr_L0, ix_lt, cond_true, ix_get, Option.bind_some]
      rw [ix_wr pre x (by omega)]
    · rw [set_self, ix_cons]
      exact ihr e r1 (pre ++ [x]) (by omega) (by rw [← ix_cons]; exact h2)

theorem copyS_ev : (∀ s, szS s ≤ 1000000 → Ev (fun n => tree_copyStmt n s) s) ∧
    ∀ l, ∀ (r0 r1 : List Stmt) (pre : List Stmt), szSl l ≤ 1000000 → (pre ++ l).length ≤ 1000000 → Ev (fun n => tree_copyBlock_L0 n r0 r1 (pre ++ l) (pre ++ l) pre.length) (pre ++ l) := by
  have blk : ∀ l : List Stmt, szSl l ≤ 1000000 → (∀ (r0 r1 : List Stmt) (pre : List Stmt), szSl l ≤ 1000000 → (pre ++ l).length ≤ 1000000 → Ev (fun n => tree_copyBlock_L0 n r0 r1 (pre ++ l) (pre ++ l) pre.length) (pre ++ l)) → Ev (fun n => tree_copyBlock n l) l := by
    intro l h ih
    have hl := len_Sl l
    have hr : room s_Stmt.i1.bytes ([] : List Stmt).length l.length = true := room_of (by
      have : s_Stmt.i1.bytes = 168 := rfl
      rw [this]; simp only [List.length_nil]; omega)
    refine Ev.step (Ev.of_eq (g := fun n => tree_copyBlock_L0 n l l l l 0) (fun n => ?_) ?_)
    · simp only [tree_copyBlock, Clone_Stmt, Clip_Stmt_o, hr, cond_true, Option.bind_some]; rfl
    · exact ih l l [] h (by simp; omega)
  refine stmt_ind ?_ ?_ ?_
  · intro k w v m e b l a ihb ihl h
    rw [szS] at h
    refine Ev.step (Ev.of_eq (g := fun n => (tree_copyExpr n e).bind fun r1 => (tree_copyBlock n b).bind fun r2 => (tree_copyBlock n l).bind fun r3 => some ⟨k, w, v, m, r1, r2, r3, a⟩) (fun n => ?_)
      (Ev.bind (copyE_ev.1 e (by omega)) (Ev.bind (blk b (by omega) ihb) (Ev.bind (blk l (by omega) ihl) (Ev.ret _)))))
    simp only [tree_copyStmt]
  · intro r0 r1 pre h1 h2
    refine Ev.step (Ev.of_eq (g := fun n => some (pre ++ [])) (fun n => ?_) (Ev.ret _))
    simp only [tree_copyBlock_L0, List.append_nil, ix_ge, cond_false]
  · intro x r ihx ihr r0 r1 pre h1 h2
    rw [szSl] at h1
    have hp : pre.length ≤ 1000000 := by simp at h2; omega
    refine Ev.step (Ev.of_eq (g := fun n => (tree_copyStmt n x).bind fun r8 => tree_copyBlock_L0 n r0 r1 (pre ++ x :: r) ((pre ++ x :: r).set (pre.length : Int).toNat r8) ((pre ++ [x]).length)) (fun n => ?_) (Ev.bind (ihx (by omega)) ?_))
    · simp only [tree_copyBlock_L0, ix_lt, cond_true, ix_get, Option.bind_some]
      rw [ix_wr pre x (by omega)]
    · rw [set_self, ix_cons]
      exact ihr r0 r1 (pre ++ [x]) (by omega) (by rw [← ix_cons]; exact h2)

theorem room32 (a : Nat) (h : a ≤ 2000000) (x : Stmt) : room s_Stmt.i1.bytes a [x].length = true := room_of (by
  have : s_Stmt.i1.bytes = 168 := rfl
  rw [this]; simp only [List.length_singleton]; omega)

theorem listed_ev : (∀ s : Stmt, (∀ out : List Stmt, out.length + szSl s.Body ≤ 1000000 → Ev (fun n => tree_listed_o n out s.Body) (out ++ flat s.Body)) ∧ ∀ out : List Stmt, out.length + szSl s.Else ≤ 1000000 → Ev (fun n => tree_listed_o n out s.Else) (out ++ flat s.Else)) ∧
    ∀ l, ∀ (a0 out : List Stmt) (pre : List Stmt), out.length + szSl l ≤ 1000000 → (pre ++ l).length ≤ 1000000 → Ev (fun n => tree_listed_o_L0 n a0 (pre ++ l) out pre.length) (out ++ flat l) := by
  refine stmt_ind ?_ ?_ ?_
  · intro k w v m e b l a ihb ihl
    have lb := len_Sl b
    have ll := len_Sl l
    exact ⟨fun out h => Ev.step (Ev.of_eq (fun n => by simp only [tree_listed_o]; rfl) (ihb out out [] (by omega) (by simp only [List.nil_append]; simp only at h; omega))),
      fun out h => Ev.step (Ev.of_eq (fun n => by simp only [tree_listed_o]; rfl) (ihl out out [] (by omega) (by simp only [List.nil_append]; simp only at h; omega)))⟩
  · intro a0 out pre h1 h2
    refine Ev.step (Ev.of_eq (g := fun n => some out) (fun n => ?_) (by simpa [flat] using Ev.ret out))
    simp only [tree_listed_o_L0, List.append_nil, ix_ge, cond_false]
  · intro x r ihx ihr a0 out pre h1 h2
    rw [szSl] at h1
    have hp : pre.length ≤ 1000000 := by simp at h2; omega
    have f1 := flat_len.1 x
    rw [fl1_eq] at f1
    simp only [List.length_cons, List.length_append] at f1
    have hx : 1 + (flat x.Body).length + szSl x.Else ≤ szS x ∧ 1 + szSl x.Body ≤ szS x := by
      cases x with
      | mk k w v m e b l a =>
        have := flat_len.2 b
        simp only [szS]
        omega
    have hbe : Ev (fun n => tree_listed_o n (out ++ [x]) x.Body) (out ++ [x] ++ flat x.Body) ∧ Ev (fun n => tree_listed_o n (out ++ [x] ++ flat x.Body) x.Else) (out ++ [x] ++ flat x.Body ++ flat x.Else) := by
      exact ⟨ihx.1 _ (by simp only [List.length_append, List.length_singleton]; omega), ihx.2 _ (by simp only [List.length_append, List.length_singleton]; omega)⟩
    refine Ev.step (Ev.of_eq (g := fun n => (tree_listed_o n (out ++ [x]) x.Body).bind fun r5 => (tree_listed_o n r5 x.Else).bind fun r6 => tree_listed_o_L0 n a0 ((pre ++ [x]) ++ r) r6 ((pre ++ [x]).length)) (fun n => ?_) (Ev.bind hbe.1 (Ev.bind hbe.2 ?_)))
    · simp only [tree_listed_o_L0, ix_lt, cond_true, ix_get, Option.bind_some, room32 out.length (by omega) x]
      rw [ix_wr pre x (by omega), ← ix_cons]
    · have := ihr a0 (out ++ [x] ++ flat x.Body ++ flat x.Else) (pre ++ [x]) (by simp only [List.length_append, List.length_singleton]; omega) (by rw [← ix_cons]; exact h2)
      rw [flat, fl1_eq]
      simpa using this

theorem listedo_ev (l out : List Stmt) (h : out.length + szSl l ≤ 1000000) : Ev (fun n => tree_listed_o n out l) (out ++ flat l) := by
  have := len_Sl l
  exact Ev.step (Ev.of_eq (fun n => by simp only [tree_listed_o]; rfl) (listed_ev.2 l out out [] h (by simp only [List.nil_append]; omega)))

theorem listedn_L0 : ∀ (l out pre : List Stmt), out.length + szSl l ≤ 1000000 → (pre ++ l).length ≤ 1000000 → Ev (fun n => tree_listed_n_L0 n (pre ++ l) out pre.length) (out ++ flat l)
  | [], out, pre, h1, h2 => by
    refine Ev.step (Ev.of_eq (g := fun n => some out) (fun n => ?_) (by simpa [flat] using Ev.ret out))
    simp only [tree_listed_n_L0, List.append_nil, ix_ge, cond_false]
  | x :: r, out, pre, h1, h2 => by
    rw [szSl] at h1
    have hp : pre.length ≤ 1000000 := by simp at h2; omega
    have f1 := flat_len.1 x
    rw [fl1_eq] at f1
    simp only [List.length_cons, List.length_append] at f1
    have hx : 1 + (flat x.Body).length + szSl x.Else ≤ szS x ∧ 1 + szSl x.Body ≤ szS x := by
      cases x with
      | mk k w v m e b l a =>
        have := flat_len.2 b
        simp only [szS]
        omega
    refine Ev.step (Ev.of_eq (g := fun n => (tree_listed_o n (out ++ [x]) x.Body).bind fun r5 => (tree_listed_o n r5 x.Else).bind fun r6 => tree_listed_n_L0 n ((pre ++ [x]) ++ r) r6 ((pre ++ [x]).length)) (fun n => ?_) (Ev.bind (listedo_ev x.Body _ ?_) (Ev.bind (listedo_ev x.Else _ ?_) ?_)))
    · simp only [tree_listed_n_L0, ix_lt, cond_true, ix_get, Option.bind_some, room32 out.length (by omega) x]
      rw [ix_wr pre x (by omega), ← ix_cons]
    · simp only [List.length_append, List.length_singleton]; omega
    · simp only [List.length_append, List.length_singleton]; omega
    · have := listedn_L0 r (out ++ [x] ++ flat x.Body ++ flat x.Else) (pre ++ [x]) (by simp only [List.length_append, List.length_singleton]; omega) (by rw [← ix_cons]; exact h2)
      rw [flat, fl1_eq]
      simpa using this
theorem listedn_ev (l : List Stmt) (h : szSl l ≤ 1000000) : Ev (fun n => tree_listed_n n l) (flat l) := by
  have := len_Sl l
  exact Ev.of_eq (fun n => by simp only [tree_listed_n]; rfl) (by simpa using listedn_L0 l [] [] (by simpa using h) (by simp only [List.nil_append]; omega))

/-- The statements of all threads. -/
def flats : List (List Stmt) → List Stmt
  | [] => []
  | t :: r => flat t ++ flats r
def szT : List (List Stmt) → Nat
  | [] => 0
  | t :: r => 1 + szSl t + szT r
theorem len_T : ∀ ts : List (List Stmt), ts.length ≤ szT ts ∧ (flats ts).length ≤ szT ts
  | [] => by simp [flats]
  | t :: r => by
    have := len_T r
    have := flat_len.2 t
    rw [flats, szT, List.length_append, List.length_cons]; omega

theorem List_L1 (D : List Decl) (ts : List (List Stmt)) (i2 : Int) (all : List Stmt) (ha : all.length ≤ 1000000) (hz : ∀ s ∈ all, szS s ≤ 1000000) : ∀ l pre, all = pre ++ l → Ev (fun n => tree_List_L1 n ⟨D, ts⟩ all i2 all pre.length) all
  | [], pre, e => by
    subst e
    refine Ev.step (Ev.of_eq (g := fun n => some (pre ++ [])) (fun n => ?_) (Ev.ret _))
    simp only [tree_List_L1, List.append_nil, ix_ge, cond_false, Clip_Stmt, sub_all, Option.bind_some]
  | x :: r, pre, e => by
    have hp : pre.length ≤ 1000000 := by rw [e] at ha; simp at ha; omega
    refine Ev.step (Ev.of_eq (g := fun n => (tree_copyStmt n x).bind fun r8 => tree_List_L1 n ⟨D, ts⟩ all i2 (all.set (pre.length : Int).toNat r8) ((pre ++ [x]).length)) (fun n => ?_) (Ev.bind (copyS_ev.1 x (hz x (by rw [e]; simp))) ?_))
    · have l1 : decide ((pre.length : Int) < ln all) = true := by rw [e]; exact ix_lt _ _ _
      have l2 : idx all (pre.length : Int) = some x := by rw [e]; exact ix_get _ _ _
      simp only [tree_List_L1, l1, l2, cond_true, Option.bind_some]
      rw [ix_wr pre x (by omega)]
    · have : all.set (pre.length : Int).toNat x = all := by rw [e]; exact set_self _ _ _
      rw [this]
      exact List_L1 D ts i2 all ha hz r (pre ++ [x]) (by rw [e]; exact ix_cons _ _ _)

theorem sz_flat : (∀ s, ∀ x ∈ fl1 s, szS x ≤ szS s) ∧ ∀ l, ∀ x ∈ flat l, szS x ≤ szSl l := by
  refine stmt_ind ?_ (by simp [flat]) ?_
  · intro k w v m e b l a h1 h2 x hx
    rw [fl1, List.mem_cons, List.mem_append] at hx
    rcases hx with rfl | hx | hx
    · exact Nat.le_refl _
    · have := h1 x hx; rw [szS]; omega
    · have := h2 x hx; rw [szS]; omega
  · intro s r h1 h2 x hx
    rw [flat, List.mem_append] at hx
    rw [szSl]
    rcases hx with hx | hx
    · have := h1 x hx; omega
    · have := h2 x hx; omega
theorem sz_flats : ∀ ts : List (List Stmt), ∀ x ∈ flats ts, szS x ≤ szT ts
  | [], x, hx => by simp [flats] at hx
  | t :: r, x, hx => by
    rw [flats, List.mem_append] at hx
    rw [szT]
    rcases hx with hx | hx
    · have := sz_flat.2 t x hx; omega
    · have := sz_flats r x hx; omega

theorem List_L0 (D : List Decl) (ts : List (List Stmt)) (hz : szT ts ≤ 1000000) : ∀ (l pre : List (List Stmt)) (acc : List Stmt), ts = pre ++ l → acc ++ flats l = flats ts → acc.length + szT l ≤ 1000000 → Ev (fun n => tree_List_L0 n ⟨D, ts⟩ acc pre.length) (flats ts)
  | [], pre, acc, e, ea, h => by
    have hts := len_T ts
    rw [flats, List.append_nil] at ea
    subst ea
    rw [List.append_nil] at e
    refine Ev.step (Ev.of_eq (g := fun n => tree_List_L1 n ⟨D, ts⟩ (flats ts) pre.length (flats ts) 0) (fun n => ?_) ?_)
    · have l1 : decide ((pre.length : Int) < ln ts) = false := by rw [e]; exact ix_ge _
      simp only [tree_List_L0, l1, cond_false]
    · exact List_L1 D ts pre.length (flats ts) (by omega) (fun s hs => by have := sz_flats ts s hs; omega) (flats ts) [] rfl
  | t :: r, pre, acc, e, ea, h => by
    have hts := len_T ts
    rw [szT] at h
    have hp : pre.length + 1 ≤ ts.length := by rw [e]; simp
    refine Ev.step (Ev.of_eq (g := fun n => (tree_listed_o n acc t).bind fun r4 => tree_List_L0 n ⟨D, ts⟩ r4 ((pre ++ [t]).length)) (fun n => ?_) (Ev.bind (listedo_ev t acc (by omega)) ?_))
    · have l1 : decide ((pre.length : Int) < ln ts) = true := by rw [e]; exact ix_lt _ _ _
      have l2 : idx ts (pre.length : Int) = some t := by rw [e]; exact ix_get _ _ _
      simp only [tree_List_L0, l1, l2, cond_true, Option.bind_some]
      rw [ix_wr pre t (by omega)]
    · have := flat_len.2 t
      exact List_L0 D ts hz r (pre ++ [t]) (acc ++ flat t) (by rw [e]; exact ix_cons _ _ _) (by rw [← ea, flats]; simp) (by rw [List.length_append]; omega)

theorem List_ev (D : List Decl) (ts : List (List Stmt)) (hz : szT ts ≤ 1000000) : Ev (fun n => tree_List n ⟨D, ts⟩) (flats ts) :=
  Ev.of_eq (fun n => by simp only [tree_List]; rfl) (List_L0 D ts hz ts [] [] rfl rfl (by simpa using hz))

end Go.Su.Ytfmgnboplbgniaa
