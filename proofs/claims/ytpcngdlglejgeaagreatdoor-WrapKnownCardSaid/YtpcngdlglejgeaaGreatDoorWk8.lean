/-
  WrapKnown: places, done ahead.
-/
import Derived.Test.YtpcngdlglejgeaaGreatDoorWkA
import Derived.KernelRfl
namespace Go.Proofs.YtpcngdlglejgeaaGreatDoor.wrapKnown
open Go.Mx
set_option maxRecDepth 1000000

def ePL207 : FuncId × List V × V := (29, [xW, (.p (.int .i64 207))], (.p (.complex .f64 4626604192193052672 4613937818241073152)))
theorem kPL207 : (saysV ePL207.2.2 (run [] ePL207.1 ePL207.2.1) && ePL207.2.1.all (pur 6)) = true := by kernel_rfl
theorem mPL207 : MemoOk Tryz.prog [ePL207] := fun x hx => memo_cons tabs (Checked.mixed Tryz.checked) hbk memo_nil kPL207 x (by simp only [List.mem_cons, List.not_mem_nil, or_false] at hx; subst hx; exact List.mem_cons_self ..)
def ePL216 : FuncId × List V × V := (29, [xW, (.p (.int .i64 216))], (.p (.complex .f64 4626885667169763328 4613937818241073152)))
theorem kPL216 : (saysV ePL216.2.2 (run [] ePL216.1 ePL216.2.1) && ePL216.2.1.all (pur 6)) = true := by kernel_rfl
theorem mPL216 : MemoOk Tryz.prog [ePL216] := fun x hx => memo_cons tabs (Checked.mixed Tryz.checked) hbk memo_nil kPL216 x (by simp only [List.mem_cons, List.not_mem_nil, or_false] at hx; subst hx; exact List.mem_cons_self ..)
def ePL228 : FuncId × List V × V := (29, [xW, (.p (.int .i64 228))], (.p (.complex .f64 4627448617123184640 4611686018427387904)))
theorem kPL228 : (saysV ePL228.2.2 (run [] ePL228.1 ePL228.2.1) && ePL228.2.1.all (pur 6)) = true := by kernel_rfl
theorem mPL228 : MemoOk Tryz.prog [ePL228] := fun x hx => memo_cons tabs (Checked.mixed Tryz.checked) hbk memo_nil kPL228 x (by simp only [List.mem_cons, List.not_mem_nil, or_false] at hx; subst hx; exact List.mem_cons_self ..)
def ePL241 : FuncId × List V × V := (29, [xW, (.p (.int .i64 241))], (.p (.complex .f64 4627730092099895296 4611686018427387904)))
theorem kPL241 : (saysV ePL241.2.2 (run [] ePL241.1 ePL241.2.1) && ePL241.2.1.all (pur 6)) = true := by kernel_rfl
theorem mPL241 : MemoOk Tryz.prog [ePL241] := fun x hx => memo_cons tabs (Checked.mixed Tryz.checked) hbk memo_nil kPL241 x (by simp only [List.mem_cons, List.not_mem_nil, or_false] at hx; subst hx; exact List.mem_cons_self ..)
def ePL257 : FuncId × List V × V := (29, [xW, (.p (.int .i64 257))], (.p (.complex .f64 4628574517030027264 4611686018427387904)))
theorem kPL257 : (saysV ePL257.2.2 (run [] ePL257.1 ePL257.2.1) && ePL257.2.1.all (pur 6)) = true := by kernel_rfl
theorem mPL257 : MemoOk Tryz.prog [ePL257] := fun x hx => memo_cons tabs (Checked.mixed Tryz.checked) hbk memo_nil kPL257 x (by simp only [List.mem_cons, List.not_mem_nil, or_false] at hx; subst hx; exact List.mem_cons_self ..)
def ePL268 : FuncId × List V × V := (29, [xW, (.p (.int .i64 268))], (.p (.complex .f64 4628855992006737920 4611686018427387904)))
theorem kPL268 : (saysV ePL268.2.2 (run [] ePL268.1 ePL268.2.1) && ePL268.2.1.all (pur 6)) = true := by kernel_rfl
theorem mPL268 : MemoOk Tryz.prog [ePL268] := fun x hx => memo_cons tabs (Checked.mixed Tryz.checked) hbk memo_nil kPL268 x (by simp only [List.mem_cons, List.not_mem_nil, or_false] at hx; subst hx; exact List.mem_cons_self ..)
def ePL279 : FuncId × List V × V := (29, [xW, (.p (.int .i64 279))], (.p (.complex .f64 4629137466983448576 4611686018427387904)))
theorem kPL279 : (saysV ePL279.2.2 (run [] ePL279.1 ePL279.2.1) && ePL279.2.1.all (pur 6)) = true := by kernel_rfl
theorem mPL279 : MemoOk Tryz.prog [ePL279] := fun x hx => memo_cons tabs (Checked.mixed Tryz.checked) hbk memo_nil kPL279 x (by simp only [List.mem_cons, List.not_mem_nil, or_false] at hx; subst hx; exact List.mem_cons_self ..)
def ePL286 : FuncId × List V × V := (29, [xW, (.p (.int .i64 286))], (.p (.complex .f64 4629418941960159232 4611686018427387904)))
theorem kPL286 : (saysV ePL286.2.2 (run [] ePL286.1 ePL286.2.1) && ePL286.2.1.all (pur 6)) = true := by kernel_rfl
theorem mPL286 : MemoOk Tryz.prog [ePL286] := fun x hx => memo_cons tabs (Checked.mixed Tryz.checked) hbk memo_nil kPL286 x (by simp only [List.mem_cons, List.not_mem_nil, or_false] at hx; subst hx; exact List.mem_cons_self ..)
def ePL299 : FuncId × List V × V := (29, [xW, (.p (.int .i64 299))], (.p (.complex .f64 4629700416936869888 4611686018427387904)))
theorem kPL299 : (saysV ePL299.2.2 (run [] ePL299.1 ePL299.2.1) && ePL299.2.1.all (pur 6)) = true := by kernel_rfl
theorem mPL299 : MemoOk Tryz.prog [ePL299] := fun x hx => memo_cons tabs (Checked.mixed Tryz.checked) hbk memo_nil kPL299 x (by simp only [List.mem_cons, List.not_mem_nil, or_false] at hx; subst hx; exact List.mem_cons_self ..)

end Go.Proofs.YtpcngdlglejgeaaGreatDoor.wrapKnown
