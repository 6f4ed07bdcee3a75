/-
  WrapKnown: no mend, done ahead.
-/
import Derived.Test.YtpcngdlglejgeaaGreatDoorWkA
import Derived.KernelRfl
namespace Go.Proofs.YtpcngdlglejgeaaGreatDoor.wrapKnown
open Go.Mx
set_option maxRecDepth 1000000

def eW3 : FuncId × List V × V := (5, [xR1, (.ps .nil [])], (.tup [xR1, (.ps .nil []), (.p (.int .i64 0))]))
theorem kW3 : (saysV eW3.2.2 (run [] eW3.1 eW3.2.1) && eW3.2.1.all (pur 6)) = true := by kernel_rfl
theorem mW3 : MemoOk Tryz.prog [eW3] := fun x hx => memo_cons tabs (Checked.mixed Tryz.checked) hbk memo_nil kW3 x (by simp only [List.mem_cons, List.not_mem_nil, or_false] at hx; subst hx; exact List.mem_cons_self ..)
def eSM : FuncId × List V × V := (11, [xR1, xR1], (.p (.bool true)))
theorem kSM : (saysV eSM.2.2 (run [] eSM.1 eSM.2.1) && eSM.2.1.all (pur 6)) = true := by kernel_rfl
theorem mSM : MemoOk Tryz.prog [eSM] := fun x hx => memo_cons tabs (Checked.mixed Tryz.checked) hbk memo_nil kSM x (by simp only [List.mem_cons, List.not_mem_nil, or_false] at hx; subst hx; exact List.mem_cons_self ..)
def eF2 : FuncId × List V × V := (8, [xR1, (.p (.int .i64 3))], (.ps .any [(.p (.string ⟨#[102, 105, 120, 50]⟩)), (.p (.string ⟨#[102, 105, 120, 51]⟩)), (.p (.string ⟨#[102, 105, 120, 52]⟩))]))
theorem kF2 : (saysV eF2.2.2 (run [] eF2.1 eF2.2.1) && eF2.2.1.all (pur 6)) = true := by kernel_rfl
theorem mF2 : MemoOk Tryz.prog [eF2] := fun x hx => memo_cons tabs (Checked.mixed Tryz.checked) hbk memo_nil kF2 x (by simp only [List.mem_cons, List.not_mem_nil, or_false] at hx; subst hx; exact List.mem_cons_self ..)
def eF3 : FuncId × List V × V := (8, [xR1, (.p (.int .i64 0))], (.ps .nil []))
theorem kF3 : (saysV eF3.2.2 (run [] eF3.1 eF3.2.1) && eF3.2.1.all (pur 6)) = true := by kernel_rfl
theorem mF3 : MemoOk Tryz.prog [eF3] := fun x hx => memo_cons tabs (Checked.mixed Tryz.checked) hbk memo_nil kF3 x (by simp only [List.mem_cons, List.not_mem_nil, or_false] at hx; subst hx; exact List.mem_cons_self ..)
def eF4 : FuncId × List V × V := (8, [xR1, (.p (.int .i64 (Int.negSucc 0)))], (.ps .nil []))
theorem kF4 : (saysV eF4.2.2 (run [] eF4.1 eF4.2.1) && eF4.2.1.all (pur 6)) = true := by kernel_rfl
theorem mF4 : MemoOk Tryz.prog [eF4] := fun x hx => memo_cons tabs (Checked.mixed Tryz.checked) hbk memo_nil kF4 x (by simp only [List.mem_cons, List.not_mem_nil, or_false] at hx; subst hx; exact List.mem_cons_self ..)

end Go.Proofs.YtpcngdlglejgeaaGreatDoor.wrapKnown
