/-
  The law BoundKnown: what it is handed is read, its code computes true, and what it was handed reads as it did.
-/
import Derived.Test.YtlfpfdkjfibdhaaRows
import Derived.Test.YtlfpfdkjfibdhaaDx10
import Derived.Test.YtlfpfdkjfibdhaaBKP
import Derived.Test.YtlfpfdkjfibdhaaPlBoundKnown
namespace Go.Su.Ytlfpfdkjfibdhaa
open Go.Mx Go.Proofs Go.RowKit
set_option linter.unusedVariables false

theorem law10_BoundKnown_walk (W : World) :
    Calls Try.prog 4 #[] W fun e w' => e = .returned (.bool true) ∧ Below W.heap.size W w' := by
  obtain ⟨n, h⟩ := law10_BoundKnown_true  
  refine calls_of_PT (law10_BoundKnown_ok h) W _ rfl fun i h1 h2 => ?_
  exact absurd h1 (by simp)
end Go.Su.Ytlfpfdkjfibdhaa
namespace Go.Proofs.Ytlfpfdkjfibdhaa.boundKnown
open Go.ChangeShapes Go.WideShapes Go.ChangeAt Go.RowKit
open Go.ChangeMaps (open_string shut_string)
set_option linter.unusedVariables false

theorem own : ownKnob Try.prog.godebug = none := by kernel_rfl
set_option maxRecDepth 100000 in
theorem lifted (os : Os) (started : os.Started) (H : Type) (enc : TypeId × Value → H) :
    ReturnsInHanded {} Try.checked os 4 .any (Rows.boundKnownSpec.pre6 enc Try.prog Try.f4 Rows.boundKnownRow.domain false) (Rows.boundKnownSpec.post enc Try.prog Try.f4 false true false false) := by
  refine returnsInHanded_of_change_sized (C := Try.checked) own started (by kernel_rfl) Try.func4
    (ChangeSpec.witness6 (enc := enc) (C := Try.checked) false ⟨#[], #[], []⟩ 8 (by kernel_rfl) (by kernel_rfl) (by kernel_rfl) (by kernel_rfl)) ?_
  intro W base args ds gs before hval0 hW hcnd hsz0 _
  have hval : ∀ (j : Nat) t v, Try.f4.params[j]? = some t → args[j]? = some v → Value.okWide Try.prog W .any base t v := hval0
  have hW' := hW
  obtain ⟨p, q, hA0, hV, rfl, hfz, hnd⟩ := hW
  have hA : DataW.TrodAll enc Try.prog W 0 (fun _ => true) true Try.f4.params.toList args.toList ds p := hA0
  rw [Try.params4] at hA hval
  obtain ⟨rfl, rfl, rfl⟩ := trodAll_none hA
  obtain ⟨rfl, rfl⟩ := trodVars_none hV
  clear hA0 hval0 hsz0
  refine (Go.Su.Ytlfpfdkjfibdhaa.law10_BoundKnown_walk W  ).mono fun e W' ⟨he, bel⟩ => ?_
  subst he
  exact ⟨_, rfl, _, _, _, [], _, [], hW', trodAll_mk1 (shut_bool Try.underlying4 _), trodAll_mk0, rfl, bel.frame _, fun h => by cases h⟩

theorem over : Rows.boundKnownRow.holds Try.pinned (OpenSpec.ofChange Rows.boundKnownSpec) :=
  OpenClaim.holds_of_wide 4 Try.f4 rfl rfl rfl rfl rfl rfl rfl ⟨rfl, rfl, rfl, rfl, rfl⟩ rfl rfl rfl rfl rfl (by kernel_rfl) Try.func4 (by kernel_rfl)
    (of_decide_eq_true (by kernel_rfl)) (by unfold Func.isWrapper; first | (rw [if_pos (by decide +kernel)]; kernel_rfl) | (rw [if_neg (by decide +kernel)]; exact ⟨rfl, rfl⟩))
    (fun os started H enc _ => lifted os started H enc)

end Go.Proofs.Ytlfpfdkjfibdhaa.boundKnown
namespace Go.Proofs.Ytlfpfdkjfibdhaa
/-- The row, under a short name, for the claim. -/
theorem boundKnown_holds : Rows.BoundKnownSaid := boundKnown.over
#print axioms boundKnown_holds
end Go.Proofs.Ytlfpfdkjfibdhaa
