/-
  The law ClockLattice: what it is handed is read, its code computes true, and what it was handed reads as it did.
-/
import Derived.Test.YtacknokheanpbaaRowA
import Derived.Test.YtacknokheanpbaaCLT
import Derived.Test.YtacknokheanpbaaCLP
import Derived.Test.YtacknokheanpbaaPlClockLattice
namespace Go.Su.Ytacknokheanpbaa
open Go.Mx Go.Proofs Go.RowKit
set_option linter.unusedVariables false

theorem law18_ClockLattice_walk (W : World) (a0 : Arr4_i64) (a1 : Arr4_i64) (a2 : Arr4_i64) (a3 : Int) (h0 : (okInt .i64 a0.e0 ∧ okInt .i64 a0.e1 ∧ okInt .i64 a0.e2 ∧ okInt .i64 a0.e3)) (h1 : (okInt .i64 a1.e0 ∧ okInt .i64 a1.e1 ∧ okInt .i64 a1.e2 ∧ okInt .i64 a1.e3)) (h2 : (okInt .i64 a2.e0 ∧ okInt .i64 a2.e1 ∧ okInt .i64 a2.e2 ∧ okInt .i64 a2.e3)) (h3 : okInt .i64 a3) :
    Calls Try.prog 5 #[.agg #[.int .i64 a0.e0, .int .i64 a0.e1, .int .i64 a0.e2, .int .i64 a0.e3], .agg #[.int .i64 a1.e0, .int .i64 a1.e1, .int .i64 a1.e2, .int .i64 a1.e3], .agg #[.int .i64 a2.e0, .int .i64 a2.e1, .int .i64 a2.e2, .int .i64 a2.e3], .int .i64 a3] W fun e w' => e = .returned (.bool true) ∧ Below W.heap.size W w' := by
  obtain ⟨n, h⟩ := law18_ClockLattice_true a0 a1 a2 a3 h0 h1 h2 h3
  refine calls_of_PT (law18_ClockLattice_ok h) W _ rfl fun i h1 h2 => ?_
  match i, h1, h2 with
  | 0, _, _ => exact rep_arr4 _ _ _ _
  | 1, _, _ => exact rep_arr4 _ _ _ _
  | 2, _, _ => exact rep_arr4 _ _ _ _
  | 3, _, _ => exact .p _
  | i + 4, h, _ => exact absurd h (by simp)
end Go.Su.Ytacknokheanpbaa
namespace Go.Proofs.Ytacknokheanpbaa.clockLattice
open Go.ChangeShapes Go.WideShapes Go.ChangeAt Go.RowKit
open Go.ChangeMaps (open_string shut_string)
set_option linter.unusedVariables false

theorem own : ownKnob Try.prog.godebug = none := by kernel_rfl
theorem laidOut : laidOutB Try.prog = true := by kernel_rfl

set_option maxRecDepth 100000 in
theorem lifted (os : Os) (started : os.Started) (H : Type) (enc : TypeId × Value → H) :
    ReturnsInHanded {} Try.checked os 5 .any (Rows.clockLatticeSpec.pre6 enc Try.prog Try.f5 Rows.clockLatticeRow.domain false) (Rows.clockLatticeSpec.post enc Try.prog Try.f5 false true false false) := by
  refine returnsInHanded_of_change_sized (C := Try.checked) own started (by kernel_rfl) Try.func5
    (ChangeSpec.witness6 (enc := enc) (C := Try.checked) false ⟨#[], #[.agg #[.int .i64 0, .int .i64 0, .int .i64 0, .int .i64 0], .agg #[.int .i64 0, .int .i64 0, .int .i64 0, .int .i64 0], .agg #[.int .i64 0, .int .i64 0, .int .i64 0, .int .i64 0], .int .i64 0], []⟩ 8 (by kernel_rfl) (by kernel_rfl) (by kernel_rfl) (by kernel_rfl)) ?_
  intro W base args ds gs before hval0 hW hcnd hsz0 _
  have hval : ∀ (j : Nat) t v, Try.f5.params[j]? = some t → args[j]? = some v → Value.okWide Try.prog W .any base t v := hval0
  have hW' := hW
  obtain ⟨p, q, hA0, hV, rfl, hfz, hnd⟩ := hW
  have hA : DataW.TrodAll enc Try.prog W 0 (fun _ => true) true Try.f5.params.toList args.toList ds p := hA0
  rw [Try.params5] at hA hval
  obtain ⟨v0, vs0, d0, ds0, p0, q0, hargs, rfl, rfl, h0, r0⟩ := trodAll_cons hA
  obtain ⟨v1, vs1, d1, ds1, p1, q1, rfl, rfl, rfl, h1, r1⟩ := trodAll_cons r0
  obtain ⟨v2, vs2, d2, ds2, p2, q2, rfl, rfl, rfl, h2, r2⟩ := trodAll_cons r1
  obtain ⟨v3, vs3, d3, ds3, p3, q3, rfl, rfl, rfl, h3, r3⟩ := trodAll_cons r2
  obtain ⟨rfl, rfl, rfl⟩ := trodAll_nil r3
  obtain rfl : args = #[v0, v1, v2, v3] := by cases args; simp_all
  obtain ⟨rfl, rfl⟩ := trodVars_none hV
  obtain ⟨b0_0, b1_0, b2_0, b3_0, w0, rfl⟩ := Go.Su.Ytacknokheanpbaa.open_arr4 Try.underlying22 Try.underlying3 (by kernel_rfl) (by kernel_rfl) (hval 0 22 v0 rfl rfl) h0
  have lt0 : ∀ x ∈ p0, x.block < W.heap.size := by obtain ⟨m, hm⟩ := h0; exact DataW.trod_lt m _ _ _ hm
  obtain ⟨b0_1, b1_1, b2_1, b3_1, w1, rfl⟩ := Go.Su.Ytacknokheanpbaa.open_arr4 Try.underlying22 Try.underlying3 (by kernel_rfl) (by kernel_rfl) (hval 1 22 v1 rfl rfl) h1
  have lt1 : ∀ x ∈ p1, x.block < W.heap.size := by obtain ⟨m, hm⟩ := h1; exact DataW.trod_lt m _ _ _ hm
  obtain ⟨b0_2, b1_2, b2_2, b3_2, w2, rfl⟩ := Go.Su.Ytacknokheanpbaa.open_arr4 Try.underlying22 Try.underlying3 (by kernel_rfl) (by kernel_rfl) (hval 2 22 v2 rfl rfl) h2
  have lt2 : ∀ x ∈ p2, x.block < W.heap.size := by obtain ⟨m, hm⟩ := h2; exact DataW.trod_lt m _ _ _ hm
  obtain ⟨a3, rfl, rfl, rfl, w3⟩ := open_int Try.underlying3 (hval 3 3 v3 rfl rfl) h3
  clear hA0 hval0 hsz0
  refine (Go.Su.Ytacknokheanpbaa.law18_ClockLattice_walk W ⟨b0_0, b1_0, b2_0, b3_0⟩ ⟨b0_1, b1_1, b2_1, b3_1⟩ ⟨b0_2, b1_2, b2_2, b3_2⟩ a3 w0 w1 w2 w3).mono fun e W' ⟨he, bel⟩ => ?_
  subst he
  exact ⟨_, rfl, _, _, _, [], _, [], hW', trodAll_mk1 (shut_bool Try.underlying4 _), (trodAll_cons_mk (Below.trod laidOut (by kernel_rfl) (of_decide_eq_true (by kernel_rfl)) h0 bel lt0) (trodAll_cons_mk (Below.trod laidOut (by kernel_rfl) (of_decide_eq_true (by kernel_rfl)) h1 bel lt1) (trodAll_cons_mk (Below.trod laidOut (by kernel_rfl) (of_decide_eq_true (by kernel_rfl)) h2 bel lt2) (trodAll_cons_mk (shut_int Try.underlying3 w3) trodAll_mk0)))), rfl, bel.frame _, fun h => by cases h⟩

theorem over : Rows.clockLatticeRow.holds Try.pinned (OpenSpec.ofChange Rows.clockLatticeSpec) :=
  OpenClaim.holds_of_wide 5 Try.f5 rfl rfl rfl rfl rfl rfl rfl ⟨rfl, rfl, rfl, rfl, rfl⟩ rfl rfl rfl rfl rfl (by kernel_rfl) Try.func5 (by kernel_rfl)
    (of_decide_eq_true (by kernel_rfl)) (by unfold Func.isWrapper; first | (rw [if_pos (by decide +kernel)]; kernel_rfl) | (rw [if_neg (by decide +kernel)]; exact ⟨rfl, rfl⟩))
    (fun os started H enc _ => lifted os started H enc)

end Go.Proofs.Ytacknokheanpbaa.clockLattice
namespace Go.Proofs.Ytacknokheanpbaa
/-- The row, under a short name, for the claim. -/
theorem clockLattice_holds : Rows.ClockLatticeSaid := clockLattice.over
#print axioms clockLattice_holds
end Go.Proofs.Ytacknokheanpbaa
