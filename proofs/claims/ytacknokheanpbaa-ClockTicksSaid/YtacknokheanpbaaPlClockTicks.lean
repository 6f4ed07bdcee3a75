/-
  ClockTicks: what its code computes is true.
-/
import Derived.Test.YtacknokheanpbaaPlClk
namespace Go.Su.Ytacknokheanpbaa
open Go.Mx Go.Proofs
set_option linter.unusedVariables false
set_option linter.unusedSimpArgs false
set_option maxHeartbeats 4000000

theorem law18_ClockTicks_true (a0 : Arr4_i64) (a1 a2 : Int) (h0 : okInt .i64 a0.e0 ∧ okInt .i64 a0.e1 ∧ okInt .i64 a0.e2 ∧ okInt .i64 a0.e3) (h1 : okInt .i64 a1) (h2 : okInt .i64 a2) : ∃ n, law18_ClockTicks n a0 a1 a2 = some true := by
  refine ⟨5, ?_⟩
  have e0 := of_eq 0 a0
  have ek := known_eq 0
  have p1 := pick_eq 5 a1 4 (by omega) (by omega)
  have p2 := pick_eq 5 a2 4 (by omega) (by omega)
  have i1 : a1 % 4 = 0 ∨ a1 % 4 = 1 ∨ a1 % 4 = 2 ∨ a1 % 4 = 3 := by omega
  have i2 : a2 % 4 = 0 ∨ a2 % 4 = 1 ∨ a2 % 4 = 2 ∨ a2 % 4 = 3 := by omega
  have x0 : 0 ≤ a0.e0 % 4 ∧ a0.e0 % 4 < 4 := by omega
  have x1 : 0 ≤ a0.e1 % 4 ∧ a0.e1 % 4 < 4 := by omega
  have x2 : 0 ≤ a0.e2 % 4 ∧ a0.e2 % 4 < 4 := by omega
  have x3 : 0 ≤ a0.e3 % 4 ∧ a0.e3 % 4 < 4 := by omega
  simp only [Nat.zero_add] at e0 ek
  unfold law18_ClockTicks
  simp only [e0, p1, p2, ek, Option.bind_some]
  generalize a0.e0 % 4 = y0 at *
  generalize a0.e1 % 4 = y1 at *
  generalize a0.e2 % 4 = y2 at *
  generalize a0.e3 % 4 = y3 at *
  generalize a1 % 4 = i at *
  generalize a2 % 4 = k at *
  have w0 : wr (y0 + 1) = y0 + 1 := wr_of (by omega)
  have w1 : wr (y1 + 1) = y1 + 1 := wr_of (by omega)
  have w2 : wr (y2 + 1) = y2 + 1 := wr_of (by omega)
  have w3 : wr (y3 + 1) = y3 + 1 := wr_of (by omega)
  have v0 : wr (y0 + 1 + 1) = y0 + 1 + 1 := wr_of (by omega)
  have v1 : wr (y1 + 1 + 1) = y1 + 1 + 1 := wr_of (by omega)
  have v2 : wr (y2 + 1 + 1) = y2 + 1 + 1 := wr_of (by omega)
  have v3 : wr (y3 + 1 + 1) = y3 + 1 + 1 := wr_of (by omega)
  have t : ∀ a k, (k = 0 ∨ k = 1 ∨ k = 2 ∨ k = 3) → clock_Tick 5 a k = some ⟨selA k 0 (wr (a.e0 + 1)) a.e0, selA k 1 (wr (a.e1 + 1)) a.e1, selA k 2 (wr (a.e2 + 1)) a.e2, selA k 3 (wr (a.e3 + 1)) a.e3⟩ := fun a k h => tick_eq 5 a k h
  have jj : ∀ a b, clock_Join 5 a b = some ⟨gomax a.e0 b.e0, gomax a.e1 b.e1, gomax a.e2 b.e2, gomax a.e3 b.e3⟩ := join_eq 0
  have bb : ∀ a b, clock_Below 5 a b = some (andL [gomax a.e0 b.e0 == b.e0, gomax a.e1 b.e1 == b.e1, gomax a.e2 b.e2 == b.e2, gomax a.e3 b.e3 == b.e3]) := below_eq 0
  have ne : ∀ y : Int, (y + 1 == y) = false := fun y => by simp; omega
  have ne' : ∀ y : Int, (y == y + 1) = false := fun y => by simp; omega
  rcases i1 with rfl | rfl | rfl | rfl <;> rcases i2 with rfl | rfl | rfl | rfl <;>
    simp [t, jj, bb, clock_Apart, jn, sel00, sel01, sel02, sel03, sel10, sel11, sel12, sel13, sel20, sel21, sel22, sel23, sel30, sel31, sel32, sel33, w0, w1, w2, w3, v0, v1, v2, v3, gomax_self, gomax_s1, gomax_s2, andL, ne, ne']

end Go.Su.Ytacknokheanpbaa
