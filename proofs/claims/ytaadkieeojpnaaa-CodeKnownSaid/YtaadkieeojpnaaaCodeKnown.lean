/-
  CodeKnown: of no arguments, the law's code, run in the abstract machine, comes to true.
-/
import Derived.Test.YtaadkieeojpnaaaRows
import Derived.Test.YtaadkieeojpnaaaCkK
import Derived.Test.YtaadkieeojpnaaaCk0
import Derived.Test.YtaadkieeojpnaaaCk1
import Derived.Test.YtaadkieeojpnaaaCk2
import Derived.Test.YtaadkieeojpnaaaCk3
import Derived.Test.YtaadkieeojpnaaaCk4
import Derived.Test.YtaadkieeojpnaaaCk5
import Derived.WalkKit
import Derived.ProofKit
import Derived.OpenShut
import Derived.ShutString
import Derived.ChangeOld
import Derived.Below
import Derived.SizedLaws
namespace Go.Proofs.Ytaadkieeojpnaaa.codeKnown
open Go.ChangeShapes Go.WideShapes Go.ChangeAt Go.RowKit
set_option linter.unusedVariables false

theorem own : ownKnob Try.prog.godebug = none := by kernel_rfl

theorem known : Go.Mx.MemoOk Try.prog [eK, eR0, eL0, eR1, eL1, eR2, eL2, eR3, eL3, eR4, eL4, eR5, eL5] := fun x hx => by
  simp only [List.mem_cons, List.not_mem_nil, or_false] at hx
  rcases hx with rfl | rfl | rfl | rfl | rfl | rfl | rfl | rfl | rfl | rfl | rfl | rfl | rfl
  · exact mK _ (List.mem_cons_self ..)
  · exact mR0 _ (List.mem_cons_self ..)
  · exact mL0 _ (List.mem_cons_self ..)
  · exact mR1 _ (List.mem_cons_self ..)
  · exact mL1 _ (List.mem_cons_self ..)
  · exact mR2 _ (List.mem_cons_self ..)
  · exact mL2 _ (List.mem_cons_self ..)
  · exact mR3 _ (List.mem_cons_self ..)
  · exact mL3 _ (List.mem_cons_self ..)
  · exact mR4 _ (List.mem_cons_self ..)
  · exact mL4 _ (List.mem_cons_self ..)
  · exact mR5 _ (List.mem_cons_self ..)
  · exact mL5 _ (List.mem_cons_self ..)

set_option maxRecDepth 1000000 in
theorem runs : Go.Mx.saysTrue (run [eK, eR0, eL0, eR1, eL1, eR2, eL2, eR3, eL3, eR4, eL4, eR5, eL5] 3 []) = true := by kernel_rfl

theorem walk (w : World) : Calls Try.prog 3 #[] w fun e w' => e = .returned (.bool true) ∧ Below w.heap.size w w' :=
  Go.Mx.calls_trueZ tabs (Checked.mixed Try.checked) known runs w

set_option maxRecDepth 1000000 in
theorem lifted (os : Os) (started : os.Started) (H : Type) (enc : TypeId × Value → H) :
    ReturnsInHanded {} Try.checked os 3 .any (Rows.codeKnownSpec.pre6 enc Try.prog Try.f3 Rows.codeKnownRow.domain false) (Rows.codeKnownSpec.post enc Try.prog Try.f3 false true false false) := by
  refine returnsInHanded_of_change_sized (C := Try.checked) own started (by kernel_rfl) Try.func3
    (ChangeSpec.witness6 (enc := enc) (C := Try.checked) false ⟨#[], #[], []⟩ 8 (by kernel_rfl) (by kernel_rfl) (by kernel_rfl) (by kernel_rfl)) ?_
  intro W base args ds gs before hval0 hW hcnd hsz0 _
  have hW' := hW
  obtain ⟨p, q, hA0, hV, rfl, hfz, hnd⟩ := hW
  have hA : DataW.TrodAll enc Try.prog W 0 (fun _ => true) true Try.f3.params.toList args.toList ds p := hA0
  rw [Try.params3] at hA
  obtain ⟨rfl, rfl, rfl⟩ := trodAll_none hA
  obtain ⟨rfl, rfl⟩ := trodVars_none hV
  clear hA0 hval0 hsz0
  refine (walk W).mono fun e W' ⟨he, bel⟩ => ?_
  subst he
  exact ⟨_, rfl, _, _, _, [], _, [], hW', trodAll_mk1 (shut_bool Try.underlying4 _), trodAll_mk0, rfl, bel.frame _, fun h => by cases h⟩

theorem over : Rows.codeKnownRow.holds Try.pinned (OpenSpec.ofChange Rows.codeKnownSpec) :=
  OpenClaim.holds_of_wide 3 Try.f3 rfl rfl rfl rfl rfl rfl rfl ⟨rfl, rfl, rfl, rfl, rfl⟩ rfl rfl rfl rfl rfl (by kernel_rfl) Try.func3 (by kernel_rfl)
    (of_decide_eq_true (by kernel_rfl)) (by unfold Func.isWrapper; first | (rw [if_pos (by decide +kernel)]; kernel_rfl) | (rw [if_neg (by decide +kernel)]; exact ⟨rfl, rfl⟩))
    (fun os started H enc _ => lifted os started H enc)

end Go.Proofs.Ytaadkieeojpnaaa.codeKnown
namespace Go.Proofs.Ytaadkieeojpnaaa
/-- The row, under a short name, for the claim. -/
theorem codeKnown_holds : Rows.CodeKnownSaid := codeKnown.over
end Go.Proofs.Ytaadkieeojpnaaa
