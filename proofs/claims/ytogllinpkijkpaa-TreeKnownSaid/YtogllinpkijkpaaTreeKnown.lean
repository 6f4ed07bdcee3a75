/-
  TreeKnown: of no arguments, the law's code, run in the abstract machine, comes to true.
-/
import Derived.Test.YtogllinpkijkpaaRows
import Derived.Test.YtogllinpkijkpaaNx22
import Derived.WalkKit
import Derived.ProofKit
import Derived.OpenShut
import Derived.ShutString
import Derived.ChangeOld
import Derived.Below
import Derived.SizedLaws
namespace Go.Proofs.Ytogllinpkijkpaa.treeKnown
open Go.ChangeShapes Go.WideShapes Go.ChangeAt Go.RowKit
set_option linter.unusedVariables false

theorem own : ownKnob Try.prog.godebug = none := by kernel_rfl
theorem tabs : Go.Mx.tabAll Try.prog = true := by kernel_rfl
set_option maxRecDepth 1000000 in
theorem runs : Go.Mx.saysTrue (Go.Mx.zFn Try.prog (Go.Mx.tabRowM Try.prog) (fun t => Nat.beq t 39) (fun g => Nat.testBit 65536 g) (Go.Mx.funOf Try.prog) (fun g => bif Nat.testBit 11811160064 g then 3 else bif Nat.testBit 36169539607593216 g then 2 else 0) [] 64 40 5 [] [] 0) = true := by kernel_rfl

theorem walk (w : World) : Calls Try.prog 5 #[] w fun e w' => e = .returned (.bool true) ∧ Below w.heap.size w w' :=
  Go.Mx.calls_trueZ tabs (Checked.mixed Try.checked) Go.Mx.memo_nil runs w

set_option maxRecDepth 1000000 in
theorem lifted (os : Os) (started : os.Started) (H : Type) (enc : TypeId × Value → H) :
    ReturnsInHanded {} Try.checked os 5 .any (Rows.treeKnownSpec.pre6 enc Try.prog Try.f5 Rows.treeKnownRow.domain false) (Rows.treeKnownSpec.post enc Try.prog Try.f5 false true false false) := by
  refine returnsInHanded_of_change_sized (C := Try.checked) own started (by kernel_rfl) Try.func5
    (ChangeSpec.witness6 (enc := enc) (C := Try.checked) false ⟨#[], #[], []⟩ 8 (by kernel_rfl) (by kernel_rfl) (by kernel_rfl) (by kernel_rfl)) ?_
  intro W base args ds gs before hval0 hW hcnd hsz0 _
  have hW' := hW
  obtain ⟨p, q, hA0, hV, rfl, hfz, hnd⟩ := hW
  have hA : DataW.TrodAll enc Try.prog W 0 (fun _ => true) true Try.f5.params.toList args.toList ds p := hA0
  rw [Try.params5] at hA
  obtain ⟨rfl, rfl, rfl⟩ := trodAll_none hA
  obtain ⟨rfl, rfl⟩ := trodVars_none hV
  clear hA0 hval0 hsz0
  refine (walk W).mono fun e W' ⟨he, bel⟩ => ?_
  subst he
  exact ⟨_, rfl, _, _, _, [], _, [], hW', trodAll_mk1 (shut_bool Try.underlying4 _), trodAll_mk0, rfl, bel.frame _, fun h => by cases h⟩

theorem over : Rows.treeKnownRow.holds Try.pinned (OpenSpec.ofChange Rows.treeKnownSpec) :=
  OpenClaim.holds_of_wide 5 Try.f5 rfl rfl rfl rfl rfl rfl rfl ⟨rfl, rfl, rfl, rfl, rfl⟩ rfl rfl rfl rfl rfl (by kernel_rfl) Try.func5 (by kernel_rfl)
    (of_decide_eq_true (by kernel_rfl)) (by unfold Func.isWrapper; first | (rw [if_pos (by decide +kernel)]; kernel_rfl) | (rw [if_neg (by decide +kernel)]; exact ⟨rfl, rfl⟩))
    (fun os started H enc _ => lifted os started H enc)

end Go.Proofs.Ytogllinpkijkpaa.treeKnown
namespace Go.Proofs.Ytogllinpkijkpaa
/-- The row, under a short name, for the claim. -/
theorem treeKnown_holds : Rows.TreeKnownSaid := treeKnown.over
end Go.Proofs.Ytogllinpkijkpaa
