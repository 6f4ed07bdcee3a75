/-
  TreeTells: what its code computes is true.
-/
import Derived.Test.YtogllinpkijkpaaPlThr
import Derived.Test.YtogllinpkijkpaaPlSameT
import Derived.Test.YtogllinpkijkpaaPlTouch
import Derived.Test.YtogllinpkijkpaaPlList
import Derived.Test.YtogllinpkijkpaaRowT
import Derived.KernelRfl
namespace Go.Su.Ytogllinpkijkpaa
open Go.Mx Go.Proofs
set_option linter.unusedVariables false
set_option linter.unusedSimpArgs false
set_option maxHeartbeats 4000000

set_option maxRecDepth 1000000 in
theorem known3_ev : Ev (fun n => law3_known n) true := by
  refine ⟨60, fun n hn => ?_⟩
  obtain ⟨k, rfl⟩ : ∃ k, n = k + 60 := ⟨n - 60, by omega⟩
  have : ∀ k, law3_known (k + 60) = some true := by intro k; kernel_rfl
  exact this k

theorem texts_ev : ∀ (l pre : List ByteArray), (pre ++ l).length ≤ 5000000 → Ev (fun n => law3_sameTexts_L0 n (pre ++ l) (pre ++ l) pre.length) true
  | [], pre, h => Ev.step (Ev.of_eq (g := fun n => some true) (fun n => by simp only [law3_sameTexts_L0, List.append_nil, ix_ge, cond_false]) (Ev.ret _))
  | x :: r, pre, h => by
    have hp : pre.length + 1 ≤ 5000000 := by simp at h; omega
    refine Ev.step (Ev.of_eq (fun n => ?_) (texts_ev r (pre ++ [x]) (by rw [← ix_cons]; exact h)))
    simp only [law3_sameTexts_L0, ix_lt, ix_get, cond_true, Option.bind_some, bytesEq_self, Bool.not_true, cond_false]
    rw [ix_wr pre x (by omega), ← ix_cons]
theorem sameTexts_ev (l : List ByteArray) (h : l.length ≤ 5000000) : Ev (fun n => law3_sameTexts n l l) true := by
  have h5 : (ln l != ln l) = false := by rw [bne_len]; simp
  exact Ev.of_eq (fun n => by simp only [law3_sameTexts, h5, cond_false]; rfl) (texts_ev l [] (by simpa using h))

theorem rThr_L (D : List Decl) (ts : List (List Stmt)) (hz : szT ts ≤ 1000000) : ∀ (l pre : List (List Stmt)) (acc : List Int), ts = pre ++ l → acc ++ thr pre.length l = thr 0 ts → acc.length + szT l ≤ 1000000 → Ev (fun n => ref1_Threads_L0 n ⟨D, ts⟩ acc pre.length) (thr 0 ts)
  | [], pre, acc, e, ea, h => by
    rw [thr, List.append_nil] at ea
    subst ea
    rw [List.append_nil] at e
    refine Ev.step (Ev.of_eq (g := fun n => some (thr 0 ts)) (fun n => ?_) (Ev.ret _))
    have l1 : decide ((pre.length : Int) < ln ts) = false := by rw [e]; exact ix_ge _
    simp only [ref1_Threads_L0, l1, cond_false]
  | t :: r, pre, acc, e, ea, h => by
    have hts := len_T ts
    rw [szT] at h
    have hp : pre.length + 1 ≤ ts.length := by rw [e]; simp
    have hf := flat_len.2 t
    have nx := rThr_L D ts hz r (pre ++ [t]) (acc ++ List.replicate (flat t).length (pre.length : Int)) (by rw [e]; exact ix_cons _ _ _) (by rw [← ea, thr]; simp) (by rw [List.length_append, List.length_replicate]; omega)
    have inner : ∀ (j : Nat) (a : List Int), a.length + j ≤ 1000000 → a ++ List.replicate j (pre.length : Int) = acc ++ List.replicate (flat t).length (pre.length : Int) → Ev (fun n => ref1_Threads_L1 n ⟨D, ts⟩ acc (pre.length : Int) t (flat t) a (j : Int)) (thr 0 ts) := by
      intro j
      induction j with
      | zero =>
        intro a _ ha
        simp only [List.replicate_zero, List.append_nil] at ha
        subst ha
        have d : decide ((0 : Int) > 0) = false := rfl
        have hw := ix_wr pre t (by omega)
        exact Ev.step (Ev.of_eq (fun n => by simp only [ref1_Threads_L1, Int.natCast_zero, d, cond_false, hw]) nx)
      | succ j ih =>
        intro a hl ha
        have d : decide (((j + 1 : Nat) : Int) > 0) = true := decide_eq_true (by omega)
        have hr : room s_int.i1.bytes a.length [(pre.length : Int)].length = true := room_of (by
          have : s_int.i1.bytes = 8 := rfl
          rw [this]; simp only [List.length_singleton]; omega)
        have hw : wr (((j + 1 : Nat) : Int) - 1) = (j : Int) := by rw [wr_of (by omega)]; omega
        refine Ev.step (Ev.of_eq (fun n => ?_) (ih (a ++ [(pre.length : Int)]) (by simp; omega) (by rw [← ha, List.replicate_succ]; simp)))
        simp only [ref1_Threads_L1, d, cond_true, hr, hw]
    refine Ev.step (Ev.of_eq (g := fun n => (ref1_block n t).bind fun r4 => ref1_Threads_L1 n ⟨D, ts⟩ acc (pre.length : Int) t r4 acc (ln r4)) (fun n => ?_) (Ev.bind (rblk_ev t (by omega)) (inner (flat t).length acc (by omega) rfl)))
    have l1 : decide ((pre.length : Int) < ln ts) = true := by rw [e]; exact ix_lt _ _ _
    have l2 : idx ts (pre.length : Int) = some t := by rw [e]; exact ix_get _ _ _
    simp only [ref1_Threads_L0, l1, l2, cond_true, Option.bind_some]
theorem rThreads_ev (D : List Decl) (ts : List (List Stmt)) (hz : szT ts ≤ 1000000) : Ev (fun n => ref1_Threads n ⟨D, ts⟩) (thr 0 ts) :=
  Ev.of_eq (fun n => by simp only [ref1_Threads]; rfl) (rThr_L D ts hz ts [] [] rfl rfl (by simpa using hz))

theorem copyB_ev (l : List Stmt) (h : szSl l ≤ 1000000) : Ev (fun n => tree_copyBlock n l) l := by
  have hl := len_Sl l
  have hr : room s_Stmt.i1.bytes ([] : List Stmt).length l.length = true := roomS _ _ (by simp; omega)
  refine Ev.step (Ev.of_eq (g := fun n => tree_copyBlock_L0 n l l l l 0) (fun n => ?_) (copyS_ev.2 l l l [] h (by simp; omega)))
  simp only [tree_copyBlock, Clone_Stmt, Clip_Stmt_o, hr, cond_true, Option.bind_some]; rfl
theorem Copy_L0 (D : List Decl) (ts : List (List Stmt)) (hz : szT ts ≤ 1000000) (r1 : List Decl) : ∀ (l pre : List (List Stmt)), ts = pre ++ l → Ev (fun n => tree_Copy_L0 n ⟨D, ts⟩ r1 D pre pre.length) ⟨D, ts⟩
  | [], pre, e => by
    rw [List.append_nil] at e
    subst e
    refine Ev.step (Ev.of_eq (g := fun n => some ⟨D, ts⟩) (fun n => ?_) (Ev.ret _))
    simp only [tree_Copy_L0, ix_ge, cond_false, Clip_LStmt, sub_all, Option.bind_some]
  | t :: r, pre, e => by
    have hts := len_T ts
    have hp : pre.length + 1 ≤ ts.length := by rw [e]; simp
    have hzt : szSl t ≤ szT ts := by
      rw [e]; clear e hp
      induction pre with
      | nil => simp only [List.nil_append, szT]; omega
      | cons a b ih => simp only [List.cons_append, szT]; omega
    refine Ev.step (Ev.of_eq (g := fun n => (tree_copyBlock n t).bind fun r6 => bif room s_LStmt.i1.bytes pre.length [r6].length then tree_Copy_L0 n ⟨D, ts⟩ r1 D (pre ++ [r6]) ((pre ++ [t]).length) else none) (fun n => ?_) (Ev.bind (copyB_ev t (by omega)) ?_))
    · have l1 : decide ((pre.length : Int) < ln ts) = true := by rw [e]; exact ix_lt _ _ _
      have l2 : idx ts (pre.length : Int) = some t := by rw [e]; exact ix_get _ _ _
      simp only [tree_Copy_L0, l1, l2, cond_true, Option.bind_some]
      rw [ix_wr pre t (by omega)]
    · have hr : room s_LStmt.i1.bytes pre.length [t].length = true := room_of (by
        have : s_LStmt.i1.bytes = 24 := rfl
        rw [this]; simp only [List.length_singleton]; omega)
      simp only [hr, cond_true]
      exact Copy_L0 D ts hz r1 r (pre ++ [t]) (by rw [e]; exact ix_cons _ _ _)
theorem Copy_ev (D : List Decl) (ts : List (List Stmt)) (hz : szT ts ≤ 1000000) (hd : D.length ≤ 1000000) : Ev (fun n => tree_Copy n ⟨D, ts⟩) ⟨D, ts⟩ := by
  have hr : room s_Decl.i1.bytes ([] : List Decl).length D.length = true := room_of (by
    have : s_Decl.i1.bytes = 48 := rfl
    rw [this]; simp only [List.length_nil]; omega)
  refine Ev.of_eq (fun n => ?_) (Copy_L0 D ts hz D ts [] rfl)
  simp only [tree_Copy, Clone_Decl, Clip_Decl, hr, cond_true, Option.bind_some, List.nil_append, sub_all]; rfl

theorem szT_of : ∀ ts : List (List Stmt), okTs ts → szT ts ≤ 641 * ts.length
  | [], _ => by simp [szT]
  | t :: r, h => by
    have h1 := h t (by simp)
    have := szS_wt.2 t 2 h1.1
    have := szT_of r (fun x hx => h x (by simp [hx]))
    rw [szT, List.length_cons]; omega
theorem sub_one {α : Type} (A : List α) (x : α) (B : List α) : sub (A ++ x :: B) (A.length : Int) ((A.length : Int) + 1) = some [x] := by
  have := sub_of (l := A ++ x :: B) (a := A.length) (b := A.length + 1) (by omega) (by simp)
  rw [show ((A.length : Int) + 1) = ((A.length + 1 : Nat) : Int) by omega, this]
  simp
theorem szE_szS (s : Stmt) : szE s.E ≤ szS s := by cases s; simp only [szS]; omega
theorem tch_len (s : Stmt) : (tch s).length ≤ szS s + 1 := by
  have := nm_len.1 s.E
  have := szE_szS s
  unfold tch
  rw [List.length_append]
  split <;> split <;> (try split) <;> simp <;> omega

theorem law3_TreeTells_true (a0 a1 : Int) (a2 a3 a4 a5 : List Act) (h0 : okInt .i64 a0) (h1 : okInt .i64 a1) (h2 : okActs a2) (h3 : okActs a3) (h4 : okActs a4) (h5 : okActs a5) : ∃ n, law3_TreeTells n a0 a1 a2 a3 a4 a5 = some true := by
  obtain ⟨D, ts, hp, oD, ots, hlen⟩ := prog_ev a0 a2 a3 a4 4 (by omega)
  obtain ⟨D', ts', hp', oD', ots', hlen'⟩ := prog_ev a1 a2 a5 a4 4 (by omega)
  have hz : szT ts ≤ 10000 := by have := szT_of ts ots; omega
  have hT := len_T ts
  have hD : D.length ≤ 1000000 := by obtain ⟨_, _, _, _, _, _, rfl⟩ := oD; simp
  have f1 := tsameP_ev ⟨D, ts⟩ ⟨D', ts'⟩ hD (by simp only; omega)
  have f2 := rsameP_ev ⟨D, ts⟩ ⟨D', ts'⟩ hD (by simp only; omega)
  have f3 := tsameP_ev ⟨D, ts⟩ ⟨D, ts⟩ hD (by simp only; omega)
  have f4 := rsameP_ev ⟨D, ts⟩ ⟨D, ts⟩ hD (by simp only; omega)
  rw [eqP_refl] at f3 f4
  have e1 := List_ev D ts (by omega)
  have e2 := rList_ev D ts (by omega)
  have e3 := Threads_ev D ts (by omega)
  have e4 := rThreads_ev D ts (by omega)
  have n1 : (ln (flats ts) != ln (flats ts)) = false := by rw [bne_len]; simp
  have n2 : (ln (thr 0 ts) != ln (thr 0 ts)) = false := by rw [bne_len]; simp
  refine Ev.get ?_
  refine Ev.of_eq (g := fun n => (hand_Prog n a0 a2 a3 a4 4).bind fun r1 => (hand_Prog n a1 a2 a5 a4 4).bind fun r2 => (law3_known n).bind fun r5 => bif !r5 then some false else (tree_Same n r1 r2).bind fun r6 => (ref1_Same n r1 r2).bind fun r7 => bif !(r6 == r7) then some false else (tree_Same n r1 r1).bind fun r8 =>
    bif !r8 then some false else (tree_List n r1).bind fun r9 => (ref1_List n r1).bind fun r10 => (tree_Threads n r1).bind fun r11 => (ref1_Threads n r1).bind fun r12 => bif ((ln r9) != (ln r10)) then some false else bif ((ln r11) != (ln r12)) then some false else
      law3_TreeTells_L0 n a0 a1 a2 a3 a4 a5 r1 r2 (!r8) r9 r10 r11 r12 ((ln r11) != (ln r12)) r10 0) (fun n => ?_) (Ev.bind hp (Ev.bind hp' (Ev.bind known3_ev ?_)))
  · simp only [law3_TreeTells, jn, cond_true]
  simp only [Bool.not_true, cond_false]
  refine Ev.bind f1 (Ev.bind f2 ?_)
  have b1 : (!(eqP ⟨D, ts⟩ ⟨D', ts'⟩ == eqP ⟨D, ts⟩ ⟨D', ts'⟩)) = false := by simp
  simp only [b1, cond_false]
  refine Ev.bind f3 ?_
  simp only [Bool.not_true, cond_false]
  refine Ev.bind e1 (Ev.bind e2 (Ev.bind e3 (Ev.bind e4 ?_)))
  simp only [n1, n2, cond_false]
  have hth := thr_len ts 0
  have loop : ∀ (q p : List Stmt), flats ts = p ++ q → Ev (fun n => law3_TreeTells_L0 n a0 a1 a2 a3 a4 a5 ⟨D, ts⟩ ⟨D', ts'⟩ false (flats ts) (flats ts) (thr 0 ts) (thr 0 ts) false (flats ts) (p.length : Int)) true := by
    intro q
    induction q with
    | nil =>
      intro p e
      rw [List.append_nil] at e
      have m1 : decide ((p.length : Int) < ln (flats ts)) = false := by rw [e]; exact ix_ge _
      refine Ev.step (Ev.of_eq (g := fun n => (tree_Copy n ⟨D, ts⟩).bind fun r34 => (ref1_Same n r34 ⟨D, ts⟩).bind fun r35 => some r35) (fun n => ?_) (Ev.bind (Copy_ev D ts (by omega) hD) (Ev.bind f4 (Ev.ret _))))
      simp only [law3_TreeTells_L0, m1, cond_false]
    | cons x q ih =>
      intro p e
      have hpq : p.length + 1 ≤ (flats ts).length := by rw [e]; simp
      have m1 : decide ((p.length : Int) < ln (flats ts)) = true := by rw [e]; exact ix_lt _ _ _
      have m2 : idx (flats ts) (p.length : Int) = some x := by rw [e]; exact ix_get _ _ _
      have m3 : wr ((p.length : Int) + 1) = (p.length : Int) + 1 := wr_of (by omega)
      have m4 : sub (flats ts) (p.length : Int) ((p.length : Int) + 1) = some [x] := by rw [e]; exact sub_one _ _ _
      obtain ⟨y, hy⟩ : ∃ y, idx (thr 0 ts) (p.length : Int) = some y := by
        have hlt : p.length < (thr 0 ts).length := by omega
        exact ⟨_, idx_of (by omega) (by rw [Int.toNat_natCast]; exact List.getElem?_eq_getElem hlt)⟩
      have m5 : (y != y) = false := by simp
      have hx := sz_flats ts x (by rw [e]; simp)
      have hxE := szE_szS x
      have sm := rsame_ev [x] [x] (by simp [szSl]; omega)
      rw [eqS_refl.2] at sm
      have t1 := ttouch_ev x (by omega)
      have t2 := rtouch_ev x (by omega)
      have hl1 := tch_len x
      have hl2 := nm_len.1 x.E
      have t3 := sameTexts_ev (tch x) (by omega)
      have t4 := tnames_ev.1 x.E (by omega)
      have t5 := rnames_ev.1 x.E (by omega)
      have t6 := sameTexts_ev (nmE x.E) (by omega)
      have nx := ih (p ++ [x]) (by rw [e]; exact ix_cons _ _ _)
      have m10 : (((p ++ [x]).length : Nat) : Int) = (p.length : Int) + 1 := by simp
      rw [m10] at nx
      refine Ev.step (Ev.of_eq (g := fun n => (ref1_SameBlock n [x] [x]).bind fun r21 => bif !r21 then some false else (tree_Touches n x).bind fun r25 => (ref1_Touches n x).bind fun r27 => (law3_sameTexts n r25 r27).bind fun r28 => bif !r28 then some false else (tree_Names n x.E).bind fun r30 => (ref1_Names n x.E).bind fun r32 => (law3_sameTexts n r30 r32).bind fun r33 =>
        bif !r33 then some false else law3_TreeTells_L0 n a0 a1 a2 a3 a4 a5 ⟨D, ts⟩ ⟨D', ts'⟩ false (flats ts) (flats ts) (thr 0 ts) (thr 0 ts) false (flats ts) ((p.length : Int) + 1)) (fun n => ?_) (Ev.bind sm ?_))
      · simp only [law3_TreeTells_L0, m1, m2, m3, m4, hy, m5, cond_true, cond_false, jn, Option.bind_some]
      simp only [Bool.not_true, cond_false]
      refine Ev.bind t1 (Ev.bind t2 (Ev.bind t3 ?_))
      simp only [Bool.not_true, cond_false]
      refine Ev.bind t4 (Ev.bind t5 (Ev.bind t6 ?_))
      simp only [Bool.not_true, cond_false]
      exact nx
  exact loop (flats ts) [] rfl

end Go.Su.Ytogllinpkijkpaa
