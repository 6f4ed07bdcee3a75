/-
  WrapKnown: the law, done ahead.
-/
import Derived.Test.YtpcngdlglejgeaaGreatDoorWk0
import Derived.Test.YtpcngdlglejgeaaGreatDoorWk1
import Derived.Test.YtpcngdlglejgeaaGreatDoorWk2
import Derived.Test.YtpcngdlglejgeaaGreatDoorWk3
import Derived.Test.YtpcngdlglejgeaaGreatDoorWk4
import Derived.Test.YtpcngdlglejgeaaGreatDoorWkB
import Derived.KernelRfl
import Derived.Below
namespace Go.Proofs.YtpcngdlglejgeaaGreatDoor.wrapKnown
open Go.RowKit Go.Mx
set_option maxRecDepth 1000000

theorem known : Go.Mx.MemoOk Tryz.prog [eK, eR1, eR2, eW1, eW2, eW3, ePR, eSM, eF2, eF3, eF4] := fun x hx => by
  simp only [List.mem_cons, List.not_mem_nil, or_false] at hx
  rcases hx with rfl | rfl | rfl | rfl | rfl | rfl | rfl | rfl | rfl | rfl | rfl
  · exact mK _ (List.mem_cons_self ..)
  · exact mR1 _ (List.mem_cons_self ..)
  · exact mR2 _ (List.mem_cons_self ..)
  · exact mW1 _ (List.mem_cons_self ..)
  · exact mW2 _ (List.mem_cons_self ..)
  · exact mW3 _ (List.mem_cons_self ..)
  · exact mPR _ (List.mem_cons_self ..)
  · exact mSM _ (List.mem_cons_self ..)
  · exact mF2 _ (List.mem_cons_self ..)
  · exact mF3 _ (List.mem_cons_self ..)
  · exact mF4 _ (List.mem_cons_self ..)

set_option maxRecDepth 1000000 in
theorem runs : Go.Mx.saysTrue (run [eK, eR1, eR2, eW1, eW2, eW3, ePR, eSM, eF2, eF3, eF4] 3 []) = true := by kernel_rfl

theorem walk (w : World) : Calls Tryz.prog 3 #[] w fun e w' => e = .returned (.bool true) ∧ Below w.heap.size w w' :=
  Go.Mx.calls_trueZ tabs (Checked.mixed Tryz.checked) hbk known runs w

end Go.Proofs.YtpcngdlglejgeaaGreatDoor.wrapKnown
