/-
  What the calls on clocks come to.
-/
import Derived.Test.YtacknokheanpbaaCLF
import Derived.Test.YtacknokheanpbaaRowA
import Derived.Test.YtacknokheanpbaaPl0
namespace Go.Su.Ytacknokheanpbaa
open Go.Mx Go.Proofs
set_option linter.unusedVariables false
set_option linter.unusedSimpArgs false

theorem pick_eq (n : Nat) (a k : Int) (hk : 0 < k) (hk2 : k ≤ 1000000) : hand_Pick n a k = some (a % k) := by
  have h1 : (k == 0) = false := by simp; omega
  have h2 : a.tmod k = if 0 ≤ a then a % k else -((-a) % k) := by
    by_cases h : 0 ≤ a
    · rw [if_pos h, Int.tmod_eq_emod_of_nonneg h]
    · rw [if_neg h, ← Int.tmod_eq_emod_of_nonneg (by omega : 0 ≤ -a), Int.neg_tmod, Int.neg_neg]
  have h3 := Int.emod_nonneg a (by omega : k ≠ 0)
  have h4 := Int.emod_lt_of_pos a hk
  have h5 := Int.emod_nonneg (-a) (by omega : k ≠ 0)
  have h6 := Int.emod_lt_of_pos (-a) hk
  show (bif (k == 0) then none else bif decide (a.tmod k < 0) then some (wr (a.tmod k + k)) else some (a.tmod k)) = _
  rw [h1, cond_false]
  by_cases h : 0 ≤ a
  · rw [if_pos h] at h2
    rw [h2, show decide (a % k < 0) = false by simp; omega, cond_false]
  · rw [if_neg h] at h2
    rw [h2]
    by_cases h7 : (-a) % k = 0
    · have h8 : a % k = 0 := Int.emod_eq_zero_of_dvd (Int.dvd_neg.1 (Int.dvd_of_emod_eq_zero h7))
      rw [h7, h8]; rfl
    · have h8 : a % k = k - (-a) % k := by
        have e1 : a = k * (a / k) + a % k := (Int.mul_ediv_add_emod a k).symm
        have e2 : -a = k * ((-a) / k) + (-a) % k := (Int.mul_ediv_add_emod (-a) k).symm
        have e3 : (a % k + (-a) % k) % k = 0 := by rw [← Int.add_emod, show a + -a = 0 by omega, Int.zero_emod]
        have e4 : 0 < a % k + (-a) % k := by omega
        have e5 : a % k + (-a) % k < 2 * k := by omega
        obtain ⟨c, hc⟩ := Int.dvd_of_emod_eq_zero e3
        have : c = 1 := by
          have c1 : 0 < c := by
            by_cases h : 0 < c
            · exact h
            · have := Int.mul_nonneg (by omega : 0 ≤ k) (by omega : 0 ≤ -c); rw [Int.mul_neg] at this; omega
          have c2 : c < 2 := by
            by_cases h : c < 2
            · exact h
            · have := Int.mul_le_mul_of_nonneg_left (by omega : 2 ≤ c) (by omega : 0 ≤ k); omega
          omega
        subst this; omega
      rw [h8, show decide (-((-a) % k) < 0) = true by simp; omega, cond_true, wr_of (by omega)]
      congr 1; omega

theorem join_eq (n : Nat) (a b : Arr4_i64) : clock_Join (n + 5) a b = some ⟨gomax a.e0 b.e0, gomax a.e1 b.e1, gomax a.e2 b.e2, gomax a.e3 b.e3⟩ := rfl
theorem below_eq (n : Nat) (a b : Arr4_i64) : clock_Below (n + 5) a b = some (andL [gomax a.e0 b.e0 == b.e0, gomax a.e1 b.e1 == b.e1, gomax a.e2 b.e2 == b.e2, gomax a.e3 b.e3 == b.e3]) := rfl
theorem of_eq (n : Nat) (a : Arr4_i64) : law18_of (n + 5) a = some ⟨a.e0 % 4, a.e1 % 4, a.e2 % 4, a.e3 % 4⟩ := by
  simp only [law18_of, law18_of_L0, pick_eq _ _ 4 (by omega) (by omega)]
  rfl
theorem tick_eq (n : Nat) (a : Arr4_i64) (k : Int) (h : k = 0 ∨ k = 1 ∨ k = 2 ∨ k = 3) : clock_Tick n a k = some ⟨selA k 0 (wr (a.e0 + 1)) a.e0, selA k 1 (wr (a.e1 + 1)) a.e1, selA k 2 (wr (a.e2 + 1)) a.e2, selA k 3 (wr (a.e3 + 1)) a.e3⟩ := by
  rcases h with rfl | rfl | rfl | rfl <;> rfl
theorem known_eq (n : Nat) : law18_known (n + 5) = some true := by
  rfl
theorem sel00 (x y : Int) : selA 0 0 x y = x := rfl
theorem sel01 (x y : Int) : selA 0 1 x y = y := rfl
theorem sel02 (x y : Int) : selA 0 2 x y = y := rfl
theorem sel03 (x y : Int) : selA 0 3 x y = y := rfl
theorem sel10 (x y : Int) : selA 1 0 x y = y := rfl
theorem sel11 (x y : Int) : selA 1 1 x y = x := rfl
theorem sel12 (x y : Int) : selA 1 2 x y = y := rfl
theorem sel13 (x y : Int) : selA 1 3 x y = y := rfl
theorem sel20 (x y : Int) : selA 2 0 x y = y := rfl
theorem sel21 (x y : Int) : selA 2 1 x y = y := rfl
theorem sel22 (x y : Int) : selA 2 2 x y = x := rfl
theorem sel23 (x y : Int) : selA 2 3 x y = y := rfl
theorem sel30 (x y : Int) : selA 3 0 x y = y := rfl
theorem sel31 (x y : Int) : selA 3 1 x y = y := rfl
theorem sel32 (x y : Int) : selA 3 2 x y = y := rfl
theorem sel33 (x y : Int) : selA 3 3 x y = x := rfl
theorem gomax_self (a : Int) : gomax a a = a := by unfold gomax; split <;> rfl
theorem gomax_s1 (a : Int) : gomax (a + 1) a = a + 1 := by unfold gomax; split <;> omega
theorem gomax_s2 (a : Int) : gomax a (a + 1) = a + 1 := by unfold gomax; split <;> omega
end Go.Su.Ytacknokheanpbaa
