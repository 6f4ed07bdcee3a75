/-
  ClockTells: what its code computes is true.
-/
import Derived.Test.YtacknokheanpbaaPlClk
namespace Go.Su.Ytacknokheanpbaa
open Go.Mx Go.Proofs
set_option linter.unusedVariables false
set_option linter.unusedSimpArgs false
set_option maxHeartbeats 4000000

theorem ref_join (n : Nat) (a b : Arr4_i64) : ref13_Join (n + 5) a b = some ⟨gomax a.e0 b.e0, gomax a.e1 b.e1, gomax a.e2 b.e2, gomax a.e3 b.e3⟩ := rfl
theorem ref_below (n : Nat) (a b : Arr4_i64) : ref13_Below (n + 5) a b = some (andL [gomax a.e0 b.e0 == b.e0, gomax a.e1 b.e1 == b.e1, gomax a.e2 b.e2 == b.e2, gomax a.e3 b.e3 == b.e3]) := rfl
theorem ref_tick (n : Nat) (a : Arr4_i64) (k : Int) : ref13_Tick n a k = clock_Tick n a k := rfl
theorem andL_self (a : Arr4_i64) : andL [a.e0 == a.e0, a.e1 == a.e1, a.e2 == a.e2, a.e3 == a.e3] = true := by simp [andL]
theorem tick_some (n : Nat) (a : Arr4_i64) (k : Int) : ∃ r, clock_Tick n a k = some r := by
  by_cases h : k = 0 ∨ k = 1 ∨ k = 2 ∨ k = 3
  · exact ⟨_, tick_eq n a k h⟩
  · refine ⟨a, ?_⟩
    by_cases h1 : k ≥ 0
    · have h2 : decide (k < 4) = false := by simp; omega
      simp [clock_Tick, jn, h1, h2]
    · simp [clock_Tick, jn, h1]

theorem law18_ClockTells_true (a0 a1 : Arr4_i64) (a2 : Int) (a3 : Bool) (h0 : okInt .i64 a0.e0 ∧ okInt .i64 a0.e1 ∧ okInt .i64 a0.e2 ∧ okInt .i64 a0.e3) (h1 : okInt .i64 a1.e0 ∧ okInt .i64 a1.e1 ∧ okInt .i64 a1.e2 ∧ okInt .i64 a1.e3) (h2 : okInt .i64 a2) : ∃ n, law18_ClockTells n a0 a1 a2 a3 = some true := by
  refine ⟨5, ?_⟩
  have e0 := of_eq 0 a0
  have e1 := of_eq 0 a1
  have ek := known_eq 0
  have p2 := pick_eq 5 a2 8 (by omega) (by omega)
  obtain ⟨J, hJ⟩ : ∃ J : Arr4_i64 → Arr4_i64 → Arr4_i64, ∀ a b, clock_Join 5 a b = some (J a b) ∧ ref13_Join 5 a b = some (J a b) := ⟨_, fun a b => ⟨join_eq 0 a b, ref_join 0 a b⟩⟩
  obtain ⟨B, hB⟩ : ∃ B : Arr4_i64 → Arr4_i64 → Bool, ∀ a b, clock_Below 5 a b = some (B a b) ∧ ref13_Below 5 a b = some (B a b) := ⟨_, fun a b => ⟨below_eq 0 a b, ref_below 0 a b⟩⟩
  have jj := fun a b => (hJ a b).1
  have jj' := fun a b => (hJ a b).2
  have bb := fun a b => (hB a b).1
  have bb' := fun a b => (hB a b).2
  simp only [Nat.zero_add] at e0 e1 ek
  unfold law18_ClockTells
  simp only [e0, e1, p2, ek, Option.bind_some, ref_tick, jj, jj', bb, bb', clock_Apart, jn, andL_self, cond_true]
  generalize (⟨a0.e0 % 4, a0.e1 % 4, a0.e2 % 4, a0.e3 % 4⟩ : Arr4_i64) = y
  generalize (⟨a1.e0 % 4, a1.e1 % 4, a1.e2 % 4, a1.e3 % 4⟩ : Arr4_i64) = z
  obtain ⟨t, ht⟩ := tick_some 5 y (wr (a2 % 8 - 2))
  cases a3
  · simp only [cond_false, ht, Option.bind_some, andL_self]
    cases h1 : B y z <;> cases h2 : B z y <;> simp [h1, h2]
  · simp only [cond_true]
    cases h1 : B a0 z <;> cases h2 : B z a0 <;> simp [h1, h2]

end Go.Su.Ytacknokheanpbaa
