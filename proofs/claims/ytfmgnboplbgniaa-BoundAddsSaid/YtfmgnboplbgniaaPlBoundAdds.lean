/-
  BoundAdds: what its code computes is true.
-/
import Derived.Test.YtfmgnboplbgniaaPlBound
import Derived.Test.YtfmgnboplbgniaaRowT
import Derived.KernelRfl
namespace Go.Su.Ytfmgnboplbgniaa
open Go.Mx Go.Proofs
set_option linter.unusedVariables false
set_option linter.unusedSimpArgs false
set_option maxHeartbeats 4000000

set_option maxRecDepth 1000000 in
theorem known10_ev : Ev (fun n => law10_known n) true := by
  refine ⟨60, fun n hn => ?_⟩
  obtain ⟨k, rfl⟩ : ∃ k, n = k + 60 := ⟨n - 60, by omega⟩
  have : ∀ k, law10_known (k + 60) = some true := by intro k; kernel_rfl
  exact this k

theorem size_ev {f : List Stmt → Int} (D : List Decl) : ∀ (ts pre : List (List Stmt)) (acc : List Int), (pre ++ ts).length ≤ 1000 → acc.length = pre.length → (∀ t ∈ ts, Ev (fun n => bound_block n t) (f t)) →
    Ev (fun n => bound_Size_L0 n ⟨D, pre ++ ts⟩ acc pre.length) (acc ++ ts.map f)
  | [], pre, acc, hl, ha, h => by
    refine Ev.step (Ev.of_eq (g := fun n => some acc) (fun n => ?_) (by simpa using Ev.ret acc))
    have h2 : sub acc 0 (ln acc) = some acc := by
      have := sub_of (l := acc) (a := 0) (b := acc.length) (by omega) (by omega)
      simpa using this
    simp only [bound_Size_L0, List.append_nil, ix_ge, cond_false, Clip_64, h2, Option.bind_some]
  | t :: r, pre, acc, hl, ha, h => by
    have hp : pre.length + r.length + 1 ≤ 1000 := by simp at hl; omega
    have hr : ∀ x : Int, room s30.i1.bytes acc.length [x].length = true := fun x => room_of (by
      have : s30.i1.bytes = 8 := rfl
      rw [this]; simp only [List.length_singleton]; omega)
    refine Ev.step (Ev.of_eq (g := fun n => (bound_block n t).bind fun r4 => bif room s30.i1.bytes acc.length [r4].length then bound_Size_L0 n ⟨D, (pre ++ [t]) ++ r⟩ (acc ++ [r4]) ((pre ++ [t]).length) else none) (fun n => ?_) (Ev.bind (h t (by simp)) ?_))
    · simp only [bound_Size_L0, ix_lt, cond_true, ix_get, Option.bind_some]
      rw [ix_wr pre t (by omega), ← ix_cons]
    · simp only [hr, cond_true]
      have := size_ev (f := f) D r (pre ++ [t]) (acc ++ [f t]) (by rw [← ix_cons]; exact hl) (by simp [ha]) (fun x hx => h x (by simp [hx]))
      simpa using this

theorem one_ev (s : Stmt) (v : Int) (h : Ev (fun n => bound_stmt n s) v) (h0 : 0 ≤ v) (h1 : v ≤ 1000000) : Ev (fun n => bound_block n [s]) v := by
  have e : v = gomin 2147483647 (wr (0 + v)) := by rw [wr_of (by omega), gomin_eq]; omega
  refine Ev.step (Ev.of_eq (g := fun n => bound_block_L0 n [s] 0 0) (fun n => by simp only [bound_block]) ?_)
  refine Ev.step (Ev.of_eq (g := fun n => (bound_stmt n s).bind fun r4 => bound_block_L0 n [s] (gomin 2147483647 (wr (0 + r4))) 1) (fun n => ?_) (Ev.bind h ?_))
  · simp only [bound_block_L0]; rfl
  · rw [← e]
    exact Ev.step (Ev.of_eq (g := fun n => some v) (fun n => by simp only [bound_block_L0]; rfl) (Ev.ret _))

theorem law10_BoundAdds_true (a0 : Int) (a1 : List Act) (a2 : Int) (h0 : okInt .i64 a0) (h1 : okActs a1) (h2 : okInt .i64 a2) : ∃ n, law10_BoundAdds n a0 a1 a2 = some true := by
  obtain ⟨D, ts, hp, _, ots, hlen⟩ := prog_ev a0 a1 [] [] 6 (by omega)
  obtain ⟨t, rest, rfl⟩ : ∃ t rest, ts = t :: rest := by
    cases ts with
    | nil => simp at hlen
    | cons t r => exact ⟨t, r, rfl⟩
  obtain ⟨ot, wt_⟩ := ots t (by simp)
  have p10 : ∀ n, hand_Pick n a2 10 = some (a2 % 10) := fun n => pick_eq n _ 10 (by omega) (by omega)
  have q0 := Int.emod_nonneg a2 (show (10 : Int) ≠ 0 by omega)
  have q1 := Int.emod_lt_of_pos a2 (show (0 : Int) < 10 by omega)
  generalize a2 % 10 = q at *
  have hb := bblock_ev t 2 ot (by omega)
  have bb := bs_le.2 t 2 ot
  have m0 := Int.mul_nonneg q0 bb.1
  have m1 : q * bl t ≤ 9 * bl t := Int.mul_le_mul_of_nonneg_right (by omega) bb.1
  -- so many times
  have hrep : Ev (fun n => bound_block n [⟨8, b0, b0, q, ⟨0, 0, b0, []⟩, t, [], c0⟩]) (q * bl t) := by
    refine one_ev _ _ ?_ m0 (by omega)
    have e1 : gomax 0 (gomin q 2147483647) = q := by rw [gomin_eq, gomax_eq]; omega
    refine Ev.step (Ev.of_eq (g := fun n => (bound_block n t).bind fun r11 => some (wr ((gomax 0 (gomin q 2147483647)) * r11))) (fun n => ?_) (Ev.bind hb ?_))
    · simp only [bound_stmt, jn]; rfl
    · rw [e1, wr_of (by omega)]; exact Ev.ret _
  have hsz : Ev (fun n => bound_Size n ⟨[], [t, [⟨8, b0, b0, q, ⟨0, 0, b0, []⟩, t, [], c0⟩]]⟩) [bl t, q * bl t] := by
    refine Ev.of_eq (g := fun n => bound_Size_L0 n ⟨[], [t, [⟨8, b0, b0, q, ⟨0, 0, b0, []⟩, t, [], c0⟩]]⟩ [] 0) (fun n => by simp only [bound_Size]) ?_
    refine Ev.step (Ev.of_eq (g := fun n => (bound_block n t).bind fun r4 => bound_Size_L0 n ⟨[], [t, [⟨8, b0, b0, q, ⟨0, 0, b0, []⟩, t, [], c0⟩]]⟩ [r4] 1) (fun n => by simp only [bound_Size_L0]; rfl) (Ev.bind hb ?_))
    refine Ev.step (Ev.of_eq (g := fun n => (bound_block n [⟨8, b0, b0, q, ⟨0, 0, b0, []⟩, t, [], c0⟩]).bind fun r4 => bound_Size_L0 n ⟨[], [t, [⟨8, b0, b0, q, ⟨0, 0, b0, []⟩, t, [], c0⟩]]⟩ [bl t, r4] 2) (fun n => by simp only [bound_Size_L0]; rfl) (Ev.bind hrep ?_))
    exact Ev.step (Ev.of_eq (g := fun n => some [bl t, q * bl t]) (fun n => by simp only [bound_Size_L0]; rfl) (Ev.ret _))
  have hone : ∀ x ∈ t, Ev (fun n => bound_Size n ⟨[], [[x]]⟩) [bs x] ∧ 0 ≤ bs x := by
    intro x hx
    have ox : okS 2 x ∧ wt x ≤ 640 := by
      clear hsz hrep hb bb m0 m1 hp ots hlen
      induction t with
      | nil => cases hx
      | cons y r ih =>
        rw [okSl] at ot; rw [wtl] at wt_
        rcases List.mem_cons.1 hx with rfl | hx
        · exact ⟨ot.1, by omega⟩
        · exact ih ot.2 (by omega) hx
    have hx2 := bs_le.1 x 2 ox.1
    have h3 := one_ev x (bs x) (bstmt_ev.1 x 2 ox.1 (by omega)) hx2.1 (by omega)
    refine ⟨?_, hx2.1⟩
    have := size_ev (f := fun l => bl l) [] [[x]] [] [] (by simp) rfl (fun t ht => by
      obtain rfl := List.mem_singleton.1 ht
      simpa [bl] using h3)
    exact Ev.of_eq (fun n => by simp only [bound_Size]; rfl) (by simpa [bl] using this)
  have hlt := len_wtl t
  refine Ev.get ?_
  refine Ev.of_eq (g := fun n => (hand_Prog n a0 a1 [] [] 6).bind fun r1 => bif ((ln r1.Threads) == 0) then (law10_known n).bind fun r2 => some r2 else
    (hand_Pick n a2 10).bind fun r3 => (idx r1.Threads 0).bind fun x4 => (idx r1.Threads 0).bind fun x5 => (bound_Size n (Prog.mk [] [x4, [(Stmt.mk 8 b0 b0 r3 (Expr.mk 0 0 b0 []) x5 [] c0)]])).bind fun r6 => (idx r1.Threads 0).bind fun x7 =>
      law10_BoundAdds_L0 n a0 a1 a2 r1 r3 x4 x5 r6 x7 0 0) (fun n => by simp only [law10_BoundAdds]) (Ev.bind hp ?_)
  have n0 : (ln (t :: rest) == 0) = false := by simp
  have i0 : idx (t :: rest) 0 = some t := rfl
  simp only [n0, cond_false, p10, Option.bind_some, i0]
  refine Ev.bind hsz ?_
  have loop : ∀ (l pre : List Stmt) (acc : Int), pre ++ l = t → acc + bl l = bl t → 0 ≤ acc → Ev (fun n => law10_BoundAdds_L0 n a0 a1 a2 ⟨D, t :: rest⟩ q t t [bl t, q * bl t] t acc pre.length) true := by
    intro l
    induction l with
    | nil =>
      intro pre acc e1 e2 e3
      rw [List.append_nil] at e1
      subst e1
      simp only [bl, Int.add_zero] at e2
      subst e2
      refine Ev.step (Ev.of_eq (g := fun n => (law10_known n).bind fun r15 => bif r15 then some true else some false) (fun n => ?_) (Ev.bind known10_ev (Ev.ret _)))
      have j1 : idx [bl pre, q * bl pre] 0 = some (bl pre) := rfl
      have j2 : idx [bl pre, q * bl pre] 1 = some (q * bl pre) := rfl
      have j3 : (ln [bl pre, q * bl pre] == 2) = true := rfl
      have j4 : wr (q * bl pre) = q * bl pre := wr_of (by omega)
      simp only [law10_BoundAdds_L0, ix_ge, cond_false, jn, j1, j2, j3, j4, Option.bind_some, beq_self_eq_true, cond_true]
    | cons x r ih =>
      intro pre acc e1 e2 e3
      have hx := hone x (by rw [← e1]; simp)
      have hlen2 : pre.length ≤ t.length := by rw [← e1]; simp
      have b2 : 0 ≤ bl r := by
        have hr : ∀ y ∈ r, 0 ≤ bs y := fun y hy => (hone y (by rw [← e1]; simp [hy])).2
        clear e1 e2 ih
        induction r with
        | nil => simp [bl]
        | cons y r ih => rw [bl]; have := hr y (by simp); have := ih (fun z hz => hr z (by simp [hz])); omega
      rw [bl] at e2
      refine Ev.step (Ev.of_eq (g := fun n => (bound_Size n ⟨[], [[x]]⟩).bind fun r11 => bif ((ln r11) != 1) then some false else (idx r11 0).bind fun x12 => law10_BoundAdds_L0 n a0 a1 a2 ⟨D, t :: rest⟩ q t t [bl t, q * bl t] t (wr (acc + x12)) ((pre ++ [x]).length)) (fun n => ?_) (Ev.bind hx.1 ?_))
      · have l1 : decide ((pre.length : Int) < ln t) = true := by rw [← e1]; exact ix_lt _ _ _
        have l2 : idx t (pre.length : Int) = some x := by rw [← e1]; exact ix_get _ _ _
        simp only [law10_BoundAdds_L0, l1, l2, cond_true, Option.bind_some]
        rw [ix_wr pre x (by omega)]
      · have j1 : (ln [bs x] != 1) = false := rfl
        have j2 : idx [bs x] 0 = some (bs x) := rfl
        simp only [j1, cond_false, j2, Option.bind_some]
        rw [wr_of (by have := hx.2; omega)]
        exact ih (pre ++ [x]) (acc + bs x) (by rw [← ix_cons]; exact e1) (by omega) (by have := hx.2; omega)
  exact loop t [] 0 rfl (by omega) (by omega)

end Go.Su.Ytfmgnboplbgniaa
