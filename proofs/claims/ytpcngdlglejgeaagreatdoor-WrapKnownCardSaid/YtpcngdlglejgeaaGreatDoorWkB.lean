/-
  WrapKnown: what is printed, done ahead.
-/
import Derived.Test.YtpcngdlglejgeaaGreatDoorWk9
import Derived.KernelRfl
namespace Go.Proofs.YtpcngdlglejgeaaGreatDoor.wrapKnown
open Go.Mx
set_option maxRecDepth 1000000

def eSH : FuncId × List V × V := (23, [xQ], xW)
theorem kSH : (saysV eSH.2.2 (run [] eSH.1 eSH.2.1) && eSH.2.1.all (pur 6)) = true := by kernel_rfl
theorem mSH : MemoOk Tryz.prog [eSH] := fun x hx => memo_cons tabs (Checked.mixed Tryz.checked) hbk memo_nil kSH x (by simp only [List.mem_cons, List.not_mem_nil, or_false] at hx; subst hx; exact List.mem_cons_self ..)
def eSQ : FuncId × List V × V := (11, [xQ, xP], (.p (.bool true)))
theorem kSQ : (saysV eSQ.2.2 (run [] eSQ.1 eSQ.2.1) && eSQ.2.1.all (pur 6)) = true := by kernel_rfl
theorem mSQ : MemoOk Tryz.prog [eSQ] := fun x hx => memo_cons tabs (Checked.mixed Tryz.checked) hbk memo_nil kSQ x (by simp only [List.mem_cons, List.not_mem_nil, or_false] at hx; subst hx; exact List.mem_cons_self ..)
def ePR : FuncId × List V × V := (10, [xQ], xW)
theorem kPR : (saysV ePR.2.2 (run [eSH, ePT, eSQ] ePR.1 ePR.2.1) && ePR.2.1.all (pur 6)) = true := by kernel_rfl
theorem mPR : MemoOk Tryz.prog [ePR] := fun x hx => memo_cons tabs (Checked.mixed Tryz.checked) hbk (fun x hx => by
  simp only [List.mem_cons, List.not_mem_nil, or_false] at hx
  rcases hx with rfl | rfl | rfl
  · exact mSH _ (List.mem_cons_self ..)
  · exact mPT _ (List.mem_cons_self ..)
  · exact mSQ _ (List.mem_cons_self ..)) kPR x (by simp only [List.mem_cons, List.not_mem_nil, or_false] at hx; subst hx; exact List.mem_cons_self ..)

end Go.Proofs.YtpcngdlglejgeaaGreatDoor.wrapKnown
