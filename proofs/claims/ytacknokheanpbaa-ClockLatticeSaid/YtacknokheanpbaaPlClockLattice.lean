/-
  ClockLattice: what its code computes is true.
-/
import Derived.Test.YtacknokheanpbaaPlClk
namespace Go.Su.Ytacknokheanpbaa
open Go.Mx Go.Proofs
set_option linter.unusedVariables false
set_option linter.unusedSimpArgs false
set_option maxHeartbeats 4000000

def Bl (a b : Arr4_i64) : Bool := andL [gomax a.e0 b.e0 == b.e0, gomax a.e1 b.e1 == b.e1, gomax a.e2 b.e2 == b.e2, gomax a.e3 b.e3 == b.e3]
theorem gomax_le (a b : Int) : (gomax a b == b) = decide (a ≤ b) := by
  unfold gomax
  by_cases h : a ≤ b
  · have : (if b > a then b else a) = b := by split <;> omega
    rw [this]; simp [h]
  · have : (if b > a then b else a) = a := by split <;> omega
    rw [this]; simp [h]; omega
theorem Bl_iff (a b : Arr4_i64) : Bl a b = true ↔ a.e0 ≤ b.e0 ∧ a.e1 ≤ b.e1 ∧ a.e2 ≤ b.e2 ∧ a.e3 ≤ b.e3 := by
  simp [Bl, andL, gomax_le]

theorem law18_ClockLattice_true (a0 a1 a2 : Arr4_i64) (a3 : Int) (h0 : okInt .i64 a0.e0 ∧ okInt .i64 a0.e1 ∧ okInt .i64 a0.e2 ∧ okInt .i64 a0.e3) (h1 : okInt .i64 a1.e0 ∧ okInt .i64 a1.e1 ∧ okInt .i64 a1.e2 ∧ okInt .i64 a1.e3) (h2 : okInt .i64 a2.e0 ∧ okInt .i64 a2.e1 ∧ okInt .i64 a2.e2 ∧ okInt .i64 a2.e3) (h3 : okInt .i64 a3) : ∃ n, law18_ClockLattice n a0 a1 a2 a3 = some true := by
  refine ⟨5, ?_⟩
  have p3 := pick_eq 5 a3 4 (by omega) (by omega)
  have i3 : a3 % 4 = 0 ∨ a3 % 4 = 1 ∨ a3 % 4 = 2 ∨ a3 % 4 = 3 := by omega
  obtain ⟨y, ey⟩ : ∃ y, law18_of 5 a1 = some y := ⟨_, of_eq 0 a1⟩
  obtain ⟨z, ez⟩ : ∃ y, law18_of 5 a2 = some y := ⟨_, of_eq 0 a2⟩
  obtain ⟨x, ex, t, et, b1, b2⟩ : ∃ x, law18_of 5 a0 = some x ∧ ∃ t, clock_Tick 5 x (a3 % 4) = some t ∧ Bl x t = true ∧ Bl t x = false := by
    refine ⟨_, of_eq 0 a0, _, tick_eq 5 _ (a3 % 4) i3, ?_, ?_⟩
    · rw [Bl_iff]; rw [wr_of (by simp only []; omega), wr_of (by simp only []; omega), wr_of (by simp only []; omega), wr_of (by simp only []; omega)]
      rcases i3 with h | h | h | h <;> rw [h] <;> simp only [sel00, sel01, sel02, sel03, sel10, sel11, sel12, sel13, sel20, sel21, sel22, sel23, sel30, sel31, sel32, sel33] <;> omega
    · rw [← Bool.not_eq_true, Bl_iff]; rw [wr_of (by simp only []; omega), wr_of (by simp only []; omega), wr_of (by simp only []; omega), wr_of (by simp only []; omega)]
      rcases i3 with h | h | h | h <;> rw [h] <;> simp only [sel00, sel01, sel02, sel03, sel10, sel11, sel12, sel13, sel20, sel21, sel22, sel23, sel30, sel31, sel32, sel33] <;> omega
  have ek := known_eq 0
  simp only [Nat.zero_add] at ek
  unfold law18_ClockLattice
  simp only [ex, ey, ez, p3, ek, et, Option.bind_some]
  clear p3 ek et ex ey ez i3
  have hj : ∀ a b, clock_Join 5 a b = some ⟨gomax a.e0 b.e0, gomax a.e1 b.e1, gomax a.e2 b.e2, gomax a.e3 b.e3⟩ := join_eq 0
  have hb : ∀ a b, clock_Below 5 a b = some (Bl a b) := below_eq 0
  obtain ⟨j, hxy, j1, j2, j3, j4, j5⟩ : ∃ j : Arr4_i64, clock_Join 5 x y = some j ∧ clock_Join 5 y x = some j ∧ Bl x j = true ∧ Bl y j = true ∧ (Bl x z = true → Bl y z = true → Bl j z = true) ∧ andL [j.e0 == y.e0, j.e1 == y.e1, j.e2 == y.e2, j.e3 == y.e3] = Bl x y := by
    refine ⟨_, hj x y, ?_, ?_, ?_, ?_, rfl⟩
    · rw [hj]; simp only [gomax_eq, Int.max_comm]
    · rw [Bl_iff]; simp only [gomax_eq]; omega
    · rw [Bl_iff]; simp only [gomax_eq]; omega
    · simp only [Bl_iff, gomax_eq]; omega
  have k1 : Bl x x = true := by rw [Bl_iff]; omega
  have k2 : Bl x y = true → Bl y x = true → andL [x.e0 == y.e0, x.e1 == y.e1, x.e2 == y.e2, x.e3 == y.e3] = true := by
    simp only [Bl_iff, andL, Bool.and_true, Bool.and_eq_true, beq_iff_eq]; omega
  have k3 : Bl x y = true → Bl y z = true → Bl x z = true := by simp only [Bl_iff]; omega
  have k4 : andL [j.e0 == j.e0, j.e1 == j.e1, j.e2 == j.e2, j.e3 == j.e3] = true := by simp [andL]
  simp only [hxy, j1, hb, k1, j2, j3, j5, k4, b1, b2, Option.bind_some, cond_true, cond_false, Bool.not_true, Bool.not_false, clock_Apart, jn]
  cases h5 : Bl x y <;> cases h6 : Bl y x <;> cases h7 : Bl y z <;> cases h8 : Bl x z <;> simp_all

end Go.Su.Ytacknokheanpbaa
