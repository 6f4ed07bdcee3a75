/-
  WrapKnown: places, done ahead.
-/
import Derived.Test.YtpcngdlglejgeaaGreatDoorWkA
import Derived.KernelRfl
namespace Go.Proofs.YtpcngdlglejgeaaGreatDoor.wrapKnown
open Go.Mx
set_option maxRecDepth 1000000

def ePL96 : FuncId × List V × V := (29, [xW, (.p (.int .i64 96))], (.p (.complex .f64 4622382067542392832 4613937818241073152)))
theorem kPL96 : (saysV ePL96.2.2 (run [] ePL96.1 ePL96.2.1) && ePL96.2.1.all (pur 6)) = true := by kernel_rfl
theorem mPL96 : MemoOk Tryz.prog [ePL96] := fun x hx => memo_cons tabs (Checked.mixed Tryz.checked) hbk memo_nil kPL96 x (by simp only [List.mem_cons, List.not_mem_nil, or_false] at hx; subst hx; exact List.mem_cons_self ..)
def ePL104 : FuncId × List V × V := (29, [xW, (.p (.int .i64 104))], (.p (.complex .f64 4622945017495814144 4613937818241073152)))
theorem kPL104 : (saysV ePL104.2.2 (run [] ePL104.1 ePL104.2.1) && ePL104.2.1.all (pur 6)) = true := by kernel_rfl
theorem mPL104 : MemoOk Tryz.prog [ePL104] := fun x hx => memo_cons tabs (Checked.mixed Tryz.checked) hbk memo_nil kPL104 x (by simp only [List.mem_cons, List.not_mem_nil, or_false] at hx; subst hx; exact List.mem_cons_self ..)
def ePL118 : FuncId × List V × V := (29, [xW, (.p (.int .i64 118))], (.p (.complex .f64 4623507967449235456 4613937818241073152)))
theorem kPL118 : (saysV ePL118.2.2 (run [] ePL118.1 ePL118.2.1) && ePL118.2.1.all (pur 6)) = true := by kernel_rfl
theorem mPL118 : MemoOk Tryz.prog [ePL118] := fun x hx => memo_cons tabs (Checked.mixed Tryz.checked) hbk memo_nil kPL118 x (by simp only [List.mem_cons, List.not_mem_nil, or_false] at hx; subst hx; exact List.mem_cons_self ..)
def ePL130 : FuncId × List V × V := (29, [xW, (.p (.int .i64 130))], (.p (.complex .f64 4624070917402656768 4613937818241073152)))
theorem kPL130 : (saysV ePL130.2.2 (run [] ePL130.1 ePL130.2.1) && ePL130.2.1.all (pur 6)) = true := by kernel_rfl
theorem mPL130 : MemoOk Tryz.prog [ePL130] := fun x hx => memo_cons tabs (Checked.mixed Tryz.checked) hbk memo_nil kPL130 x (by simp only [List.mem_cons, List.not_mem_nil, or_false] at hx; subst hx; exact List.mem_cons_self ..)
def ePL140 : FuncId × List V × V := (29, [xW, (.p (.int .i64 140))], (.p (.complex .f64 4624633867356078080 4616189618054758400)))
theorem kPL140 : (saysV ePL140.2.2 (run [] ePL140.1 ePL140.2.1) && ePL140.2.1.all (pur 6)) = true := by kernel_rfl
theorem mPL140 : MemoOk Tryz.prog [ePL140] := fun x hx => memo_cons tabs (Checked.mixed Tryz.checked) hbk memo_nil kPL140 x (by simp only [List.mem_cons, List.not_mem_nil, or_false] at hx; subst hx; exact List.mem_cons_self ..)
def ePL155 : FuncId × List V × V := (29, [xW, (.p (.int .i64 155))], (.p (.complex .f64 4625196817309499392 4616189618054758400)))
theorem kPL155 : (saysV ePL155.2.2 (run [] ePL155.1 ePL155.2.1) && ePL155.2.1.all (pur 6)) = true := by kernel_rfl
theorem mPL155 : MemoOk Tryz.prog [ePL155] := fun x hx => memo_cons tabs (Checked.mixed Tryz.checked) hbk memo_nil kPL155 x (by simp only [List.mem_cons, List.not_mem_nil, or_false] at hx; subst hx; exact List.mem_cons_self ..)
def ePL170 : FuncId × List V × V := (29, [xW, (.p (.int .i64 170))], (.p (.complex .f64 4625478292286210048 4616189618054758400)))
theorem kPL170 : (saysV ePL170.2.2 (run [] ePL170.1 ePL170.2.1) && ePL170.2.1.all (pur 6)) = true := by kernel_rfl
theorem mPL170 : MemoOk Tryz.prog [ePL170] := fun x hx => memo_cons tabs (Checked.mixed Tryz.checked) hbk memo_nil kPL170 x (by simp only [List.mem_cons, List.not_mem_nil, or_false] at hx; subst hx; exact List.mem_cons_self ..)
def ePL183 : FuncId × List V × V := (29, [xW, (.p (.int .i64 183))], (.p (.complex .f64 4626041242239631360 4613937818241073152)))
theorem kPL183 : (saysV ePL183.2.2 (run [] ePL183.1 ePL183.2.1) && ePL183.2.1.all (pur 6)) = true := by kernel_rfl
theorem mPL183 : MemoOk Tryz.prog [ePL183] := fun x hx => memo_cons tabs (Checked.mixed Tryz.checked) hbk memo_nil kPL183 x (by simp only [List.mem_cons, List.not_mem_nil, or_false] at hx; subst hx; exact List.mem_cons_self ..)
def ePL197 : FuncId × List V × V := (29, [xW, (.p (.int .i64 197))], (.p (.complex .f64 4626322717216342016 4613937818241073152)))
theorem kPL197 : (saysV ePL197.2.2 (run [] ePL197.1 ePL197.2.1) && ePL197.2.1.all (pur 6)) = true := by kernel_rfl
theorem mPL197 : MemoOk Tryz.prog [ePL197] := fun x hx => memo_cons tabs (Checked.mixed Tryz.checked) hbk memo_nil kPL197 x (by simp only [List.mem_cons, List.not_mem_nil, or_false] at hx; subst hx; exact List.mem_cons_self ..)

end Go.Proofs.YtpcngdlglejgeaaGreatDoor.wrapKnown
