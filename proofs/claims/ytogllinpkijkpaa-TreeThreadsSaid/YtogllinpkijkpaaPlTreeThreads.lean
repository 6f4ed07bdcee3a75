/-
  TreeThreads: what its code computes is true.
-/
import Derived.Test.YtogllinpkijkpaaPlThr
import Derived.Test.YtogllinpkijkpaaPlSame
import Derived.Test.YtogllinpkijkpaaRowT
import Derived.KernelRfl
namespace Go.Su.Ytogllinpkijkpaa
open Go.Mx Go.Proofs
set_option linter.unusedVariables false
set_option linter.unusedSimpArgs false
set_option maxHeartbeats 4000000

set_option maxRecDepth 1000000 in
theorem known3_ev : Ev (fun n => law3_known n) true := by
  refine ⟨60, fun n hn => ?_⟩
  obtain ⟨k, rfl⟩ : ∃ k, n = k + 60 := ⟨n - 60, by omega⟩
  have : ∀ k, law3_known (k + 60) = some true := by intro k; kernel_rfl
  exact this k

theorem sub_one {α : Type} (A : List α) (x : α) (B : List α) : sub (A ++ x :: B) (A.length : Int) ((A.length : Int) + 1) = some [x] := by
  have := sub_of (l := A ++ x :: B) (a := A.length) (b := A.length + 1) (by omega) (by simp)
  rw [show ((A.length : Int) + 1) = ((A.length + 1 : Nat) : Int) by omega, this]
  simp
theorem thr_app : ∀ (a b : List (List Stmt)) (k : Nat), thr k (a ++ b) = thr k a ++ thr (k + a.length) b
  | [], b, k => by simp [thr]
  | t :: r, b, k => by rw [List.cons_append, thr, thr, thr_app r b (k + 1), List.append_assoc, List.length_cons, show k + 1 + r.length = k + (r.length + 1) by omega]
theorem flats_app : ∀ a b : List (List Stmt), flats (a ++ b) = flats a ++ flats b
  | [], b => rfl
  | t :: r, b => by rw [List.cons_append, flats, flats, flats_app r b, List.append_assoc]
theorem szT_of : ∀ ts : List (List Stmt), okTs ts → szT ts ≤ 641 * ts.length
  | [], _ => by simp [szT]
  | t :: r, h => by
    have h1 := h t (by simp)
    have := szS_wt.2 t 2 h1.1
    have := szT_of r (fun x hx => h x (by simp [hx]))
    rw [szT, List.length_cons]; omega
theorem mem_szT : ∀ (ts : List (List Stmt)) (t : List Stmt), t ∈ ts → szSl t ≤ szT ts
  | [], t, h => by simp at h
  | x :: r, t, h => by
    rw [szT]
    rcases List.mem_cons.1 h with rfl | h
    · omega
    · have := mem_szT r t h; omega

theorem law3_TreeThreads_true (a0 : Int) (a1 a2 a3 : List Act) (h0 : okInt .i64 a0) (h1 : okActs a1) (h2 : okActs a2) (h3 : okActs a3) : ∃ n, law3_TreeThreads n a0 a1 a2 a3 = some true := by
  obtain ⟨D, ts, hp, _, ots, hlen⟩ := prog_ev a0 a1 a2 a3 4 (by omega)
  have hz : szT ts ≤ 10000 := by have := szT_of ts ots; omega
  have hT := len_T ts
  have e1 := List_ev D ts (by omega)
  have e2 := Threads_ev D ts (by omega)
  refine Ev.get ?_
  have hln : (ln (flats ts) != ln (thr 0 ts)) = false := by rw [bne_len, thr_len]; simp
  refine Ev.of_eq (g := fun n => (hand_Prog n a0 a1 a2 a3 4).bind fun r1 => (tree_List n r1).bind fun r2 => (tree_Threads n r1).bind fun r3 => (law3_known n).bind fun r6 => bif !r6 then some false else bif ((ln r2) != (ln r3)) then some false else
    law3_TreeThreads_L0 n a0 a1 a2 a3 r1 r2 r3 ((ln r2) != (ln r3)) 0 0) (fun n => ?_) (Ev.bind hp (Ev.bind e1 (Ev.bind e2 (Ev.bind known3_ev ?_))))
  · simp only [law3_TreeThreads, jn, cond_true]
  simp only [Bool.not_true, cond_false, hln]
  have loop : ∀ (l pre : List (List Stmt)), ts = pre ++ l → Ev (fun n => law3_TreeThreads_L0 n a0 a1 a2 a3 ⟨D, ts⟩ (flats ts) (thr 0 ts) false ((flats pre).length : Int) (pre.length : Int)) true := by
    intro l
    induction l with
    | nil =>
      intro pre e
      rw [List.append_nil] at e
      have l1 : decide ((pre.length : Int) < ln ts) = false := by rw [e]; exact ix_ge _
      refine Ev.step (Ev.of_eq (g := fun n => some true) (fun n => ?_) (Ev.ret _))
      have l2 : (((flats pre).length : Int) == ln (flats ts)) = true := by rw [e]; simp
      simp only [law3_TreeThreads_L0, l1, cond_false, l2]
    | cons t r ih =>
      intro pre e
      have l1 : decide ((pre.length : Int) < ln ts) = true := by rw [e]; exact ix_lt _ _ _
      have hpl : pre.length + 1 ≤ ts.length := by rw [e]; simp
      have hwr : wr ((pre.length : Int) + 1) = (pre.length : Int) + 1 := wr_of (by omega)
      have l2 : sub ts (pre.length : Int) ((pre.length : Int) + 1) = some [t] := by rw [e]; exact sub_one _ _ _
      have hzt := mem_szT ts t (by rw [e]; simp)
      have e3 := List_ev D [t] (by simp [szT]; omega)
      rw [flats, flats, List.append_nil] at e3
      have hfl : flats ts = flats pre ++ (flat t ++ flats r) := by rw [e, flats_app, flats]
      have hth : thr 0 ts = thr 0 pre ++ (List.replicate (flat t).length (pre.length : Int) ++ thr (pre.length + 1) r) := by rw [e, thr_app, thr, Nat.zero_add]
      have hft := flat_len.2 t
      have htot : (flats pre).length + (flat t).length + (flats r).length ≤ 10000 := by
        have := congrArg List.length hfl
        simp only [List.length_append] at this; omega
      have htp := thr_len pre 0
      refine Ev.step (Ev.of_eq (g := fun n => (tree_List n ⟨D, [t]⟩).bind fun r10 => law3_TreeThreads_L1 n a0 a1 a2 a3 ⟨D, ts⟩ (flats ts) (thr 0 ts) false ((flats pre).length : Int) (pre.length : Int) [t] r10 0) (fun n => ?_) (Ev.bind e3 ?_))
      · simp only [law3_TreeThreads_L0, l1, cond_true, hwr, l2, Option.bind_some]
      have inner : ∀ q p : List Stmt, flat t = p ++ q → Ev (fun n => law3_TreeThreads_L1 n a0 a1 a2 a3 ⟨D, ts⟩ (flats ts) (thr 0 ts) false ((flats pre).length : Int) (pre.length : Int) [t] (flat t) (p.length : Int)) true := by
        intro q
        induction q with
        | nil =>
          intro p e4
          rw [List.append_nil] at e4
          have m1 : decide ((p.length : Int) < ln (flat t)) = false := by rw [e4]; exact ix_ge _
          have m2 : wr (((flats pre).length : Int) + ln (flat t)) = ((flats (pre ++ [t])).length : Int) := by
            rw [flats_app, flats, flats, List.append_nil, List.length_append]
            show wr (((flats pre).length : Int) + ((flat t).length : Int)) = _
            rw [wr_of (by omega)]; omega
          have m3 : wr ((pre.length : Int) + 1) = ((pre ++ [t]).length : Int) := ix_wr pre t (by omega)
          exact Ev.step (Ev.of_eq (fun n => by simp only [law3_TreeThreads_L1, m1, m2, m3, cond_false]) (ih (pre ++ [t]) (by rw [e]; exact ix_cons _ _ _)))
        | cons x q ihq =>
          intro p e4
          have hpq : p.length + 1 + q.length = (flat t).length := by rw [e4]; simp; omega
          have m1 : decide ((p.length : Int) < ln (flat t)) = true := by rw [e4]; exact ix_lt _ _ _
          have m2 : wr (((flats pre).length : Int) + (p.length : Int)) = ((flats pre ++ p).length : Int) := by rw [wr_of (by omega)]; simp
          have m3 : decide (((flats pre ++ p).length : Int) ≥ ln (flats ts)) = false := decide_eq_false (by
            show ¬ ((flats pre ++ p).length : Int) ≥ ((flats ts).length : Int)
            rw [hfl]; simp only [List.length_append]; omega)
          have m4 : idx (thr 0 ts) ((flats pre ++ p).length : Int) = some (pre.length : Int) := by
            refine idx_of (by omega) ?_
            rw [hth, Int.toNat_natCast, List.length_append, ← htp, List.getElem?_append_right (by omega), List.getElem?_append_left (by rw [List.length_replicate]; omega), List.getElem?_replicate, if_pos (by omega)]
          have m5 : ((pre.length : Int) != (pre.length : Int)) = false := by simp
          have m6 : wr ((p.length : Int) + 1) = (p.length : Int) + 1 := wr_of (by omega)
          have m7 : sub (flat t) (p.length : Int) ((p.length : Int) + 1) = some [x] := by rw [e4]; exact sub_one _ _ _
          have m8 : wr (((flats pre ++ p).length : Int) + 1) = ((flats pre ++ p).length : Int) + 1 := wr_of (by simp only [List.length_append]; omega)
          have m9 : sub (flats ts) ((flats pre ++ p).length : Int) (((flats pre ++ p).length : Int) + 1) = some [x] := by
            rw [hfl, e4, show flats pre ++ (p ++ x :: q ++ flats r) = (flats pre ++ p) ++ x :: (q ++ flats r) by simp]; exact sub_one _ _ _
          have hx := sz_flat.2 t x (by rw [e4]; simp)
          have sm := rsame_ev [x] [x] (by simp [szSl]; omega)
          rw [eqS_refl.2] at sm
          have nx := ihq (p ++ [x]) (by rw [e4]; exact ix_cons _ _ _)
          have m10 : (((p ++ [x]).length : Nat) : Int) = (p.length : Int) + 1 := by simp
          rw [m10] at nx
          refine Ev.step (Ev.of_eq (g := fun n => (ref1_SameBlock n [x] [x]).bind fun r17 => bif !r17 then some false else law3_TreeThreads_L1 n a0 a1 a2 a3 ⟨D, ts⟩ (flats ts) (thr 0 ts) false ((flats pre).length : Int) (pre.length : Int) [t] (flat t) ((p.length : Int) + 1)) (fun n => ?_) (Ev.bind sm ?_))
          · simp only [law3_TreeThreads_L1, m1, m2, m3, m4, m5, m6, m7, m8, m9, cond_true, cond_false, jn, Option.bind_some]
          · simpa using nx
      exact inner (flat t) [] rfl
  exact loop ts [] rfl

end Go.Su.Ytogllinpkijkpaa
