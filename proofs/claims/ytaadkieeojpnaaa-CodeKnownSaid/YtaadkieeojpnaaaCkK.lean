/-
  CodeKnown: its example, done ahead.
-/
import Derived.Test.YtaadkieeojpnaaaCkA
import Derived.KernelRfl
namespace Go.Proofs.Ytaadkieeojpnaaa.codeKnown
open Go.Mx
set_option maxRecDepth 1000000

def eK : FuncId × List V × V := (6, [], .p (.bool true))
theorem kK : (saysV eK.2.2 (run [] eK.1 eK.2.1) && eK.2.1.all (pur 6)) = true := by kernel_rfl
theorem mK : MemoOk Try.prog [eK] := fun x hx => memo_cons tabs (Checked.mixed Try.checked) memo_nil kK x (by simp only [List.mem_cons, List.not_mem_nil, or_false] at hx; subst hx; exact List.mem_cons_self ..)

end Go.Proofs.Ytaadkieeojpnaaa.codeKnown
