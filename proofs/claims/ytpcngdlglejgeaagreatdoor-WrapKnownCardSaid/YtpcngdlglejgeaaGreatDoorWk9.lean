/-
  WrapKnown: what is printed, read, done ahead.
-/
import Derived.Test.YtpcngdlglejgeaaGreatDoorWk5
import Derived.Test.YtpcngdlglejgeaaGreatDoorWk6
import Derived.Test.YtpcngdlglejgeaaGreatDoorWk7
import Derived.Test.YtpcngdlglejgeaaGreatDoorWk8
import Derived.KernelRfl
namespace Go.Proofs.YtpcngdlglejgeaaGreatDoor.wrapKnown
open Go.Mx
set_option maxRecDepth 1000000

def ePT : FuncId × List V × V := (12, [xW], (.tup [xP, (.p (.int .i64 0)), (.p (.int .i64 0))]))
theorem kPT : (saysV ePT.2.2 (run [eTW, ePL0, ePL11, ePL17, ePL24, ePL36, ePL47, ePL64, ePL75, ePL84, ePL96, ePL104, ePL118, ePL130, ePL140, ePL155, ePL170, ePL183, ePL197, ePL207, ePL216, ePL228, ePL241, ePL257, ePL268, ePL279, ePL286, ePL299] ePT.1 ePT.2.1) && ePT.2.1.all (pur 6)) = true := by kernel_rfl
theorem mPT : MemoOk Tryz.prog [ePT] := fun x hx => memo_cons tabs (Checked.mixed Tryz.checked) hbk (fun x hx => by
  simp only [List.mem_cons, List.not_mem_nil, or_false] at hx
  rcases hx with rfl | rfl | rfl | rfl | rfl | rfl | rfl | rfl | rfl | rfl | rfl | rfl | rfl | rfl | rfl | rfl | rfl | rfl | rfl | rfl | rfl | rfl | rfl | rfl | rfl | rfl | rfl | rfl
  · exact mTW _ (List.mem_cons_self ..)
  · exact mPL0 _ (List.mem_cons_self ..)
  · exact mPL11 _ (List.mem_cons_self ..)
  · exact mPL17 _ (List.mem_cons_self ..)
  · exact mPL24 _ (List.mem_cons_self ..)
  · exact mPL36 _ (List.mem_cons_self ..)
  · exact mPL47 _ (List.mem_cons_self ..)
  · exact mPL64 _ (List.mem_cons_self ..)
  · exact mPL75 _ (List.mem_cons_self ..)
  · exact mPL84 _ (List.mem_cons_self ..)
  · exact mPL96 _ (List.mem_cons_self ..)
  · exact mPL104 _ (List.mem_cons_self ..)
  · exact mPL118 _ (List.mem_cons_self ..)
  · exact mPL130 _ (List.mem_cons_self ..)
  · exact mPL140 _ (List.mem_cons_self ..)
  · exact mPL155 _ (List.mem_cons_self ..)
  · exact mPL170 _ (List.mem_cons_self ..)
  · exact mPL183 _ (List.mem_cons_self ..)
  · exact mPL197 _ (List.mem_cons_self ..)
  · exact mPL207 _ (List.mem_cons_self ..)
  · exact mPL216 _ (List.mem_cons_self ..)
  · exact mPL228 _ (List.mem_cons_self ..)
  · exact mPL241 _ (List.mem_cons_self ..)
  · exact mPL257 _ (List.mem_cons_self ..)
  · exact mPL268 _ (List.mem_cons_self ..)
  · exact mPL279 _ (List.mem_cons_self ..)
  · exact mPL286 _ (List.mem_cons_self ..)
  · exact mPL299 _ (List.mem_cons_self ..)) kPT x (by simp only [List.mem_cons, List.not_mem_nil, or_false] at hx; subst hx; exact List.mem_cons_self ..)

end Go.Proofs.YtpcngdlglejgeaaGreatDoor.wrapKnown
