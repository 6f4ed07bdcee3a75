/-
  WrapKnown: places, done ahead.
-/
import Derived.Test.YtpcngdlglejgeaaGreatDoorWkA
import Derived.KernelRfl
namespace Go.Proofs.YtpcngdlglejgeaaGreatDoor.wrapKnown
open Go.Mx
set_option maxRecDepth 1000000

def ePL0 : FuncId × List V × V := (29, [xW, (.p (.int .i64 0))], (.p (.complex .f64 4607182418800017408 4607182418800017408)))
theorem kPL0 : (saysV ePL0.2.2 (run [] ePL0.1 ePL0.2.1) && ePL0.2.1.all (pur 6)) = true := by kernel_rfl
theorem mPL0 : MemoOk Tryz.prog [ePL0] := fun x hx => memo_cons tabs (Checked.mixed Tryz.checked) hbk memo_nil kPL0 x (by simp only [List.mem_cons, List.not_mem_nil, or_false] at hx; subst hx; exact List.mem_cons_self ..)
def ePL11 : FuncId × List V × V := (29, [xW, (.p (.int .i64 11))], (.p (.complex .f64 4611686018427387904 4607182418800017408)))
theorem kPL11 : (saysV ePL11.2.2 (run [] ePL11.1 ePL11.2.1) && ePL11.2.1.all (pur 6)) = true := by kernel_rfl
theorem mPL11 : MemoOk Tryz.prog [ePL11] := fun x hx => memo_cons tabs (Checked.mixed Tryz.checked) hbk memo_nil kPL11 x (by simp only [List.mem_cons, List.not_mem_nil, or_false] at hx; subst hx; exact List.mem_cons_self ..)
def ePL17 : FuncId × List V × V := (29, [xW, (.p (.int .i64 17))], (.p (.complex .f64 4613937818241073152 4607182418800017408)))
theorem kPL17 : (saysV ePL17.2.2 (run [] ePL17.1 ePL17.2.1) && ePL17.2.1.all (pur 6)) = true := by kernel_rfl
theorem mPL17 : MemoOk Tryz.prog [ePL17] := fun x hx => memo_cons tabs (Checked.mixed Tryz.checked) hbk memo_nil kPL17 x (by simp only [List.mem_cons, List.not_mem_nil, or_false] at hx; subst hx; exact List.mem_cons_self ..)
def ePL24 : FuncId × List V × V := (29, [xW, (.p (.int .i64 24))], (.p (.complex .f64 4616189618054758400 4607182418800017408)))
theorem kPL24 : (saysV ePL24.2.2 (run [] ePL24.1 ePL24.2.1) && ePL24.2.1.all (pur 6)) = true := by kernel_rfl
theorem mPL24 : MemoOk Tryz.prog [ePL24] := fun x hx => memo_cons tabs (Checked.mixed Tryz.checked) hbk memo_nil kPL24 x (by simp only [List.mem_cons, List.not_mem_nil, or_false] at hx; subst hx; exact List.mem_cons_self ..)
def ePL36 : FuncId × List V × V := (29, [xW, (.p (.int .i64 36))], (.p (.complex .f64 4617315517961601024 4607182418800017408)))
theorem kPL36 : (saysV ePL36.2.2 (run [] ePL36.1 ePL36.2.1) && ePL36.2.1.all (pur 6)) = true := by kernel_rfl
theorem mPL36 : MemoOk Tryz.prog [ePL36] := fun x hx => memo_cons tabs (Checked.mixed Tryz.checked) hbk memo_nil kPL36 x (by simp only [List.mem_cons, List.not_mem_nil, or_false] at hx; subst hx; exact List.mem_cons_self ..)
def ePL47 : FuncId × List V × V := (29, [xW, (.p (.int .i64 47))], (.p (.complex .f64 4618441417868443648 4607182418800017408)))
theorem kPL47 : (saysV ePL47.2.2 (run [] ePL47.1 ePL47.2.1) && ePL47.2.1.all (pur 6)) = true := by kernel_rfl
theorem mPL47 : MemoOk Tryz.prog [ePL47] := fun x hx => memo_cons tabs (Checked.mixed Tryz.checked) hbk memo_nil kPL47 x (by simp only [List.mem_cons, List.not_mem_nil, or_false] at hx; subst hx; exact List.mem_cons_self ..)
def ePL64 : FuncId × List V × V := (29, [xW, (.p (.int .i64 64))], (.p (.complex .f64 4620693217682128896 4611686018427387904)))
theorem kPL64 : (saysV ePL64.2.2 (run [] ePL64.1 ePL64.2.1) && ePL64.2.1.all (pur 6)) = true := by kernel_rfl
theorem mPL64 : MemoOk Tryz.prog [ePL64] := fun x hx => memo_cons tabs (Checked.mixed Tryz.checked) hbk memo_nil kPL64 x (by simp only [List.mem_cons, List.not_mem_nil, or_false] at hx; subst hx; exact List.mem_cons_self ..)
def ePL75 : FuncId × List V × V := (29, [xW, (.p (.int .i64 75))], (.p (.complex .f64 4621256167635550208 4611686018427387904)))
theorem kPL75 : (saysV ePL75.2.2 (run [] ePL75.1 ePL75.2.1) && ePL75.2.1.all (pur 6)) = true := by kernel_rfl
theorem mPL75 : MemoOk Tryz.prog [ePL75] := fun x hx => memo_cons tabs (Checked.mixed Tryz.checked) hbk memo_nil kPL75 x (by simp only [List.mem_cons, List.not_mem_nil, or_false] at hx; subst hx; exact List.mem_cons_self ..)
def ePL84 : FuncId × List V × V := (29, [xW, (.p (.int .i64 84))], (.p (.complex .f64 4621819117588971520 4613937818241073152)))
theorem kPL84 : (saysV ePL84.2.2 (run [] ePL84.1 ePL84.2.1) && ePL84.2.1.all (pur 6)) = true := by kernel_rfl
theorem mPL84 : MemoOk Tryz.prog [ePL84] := fun x hx => memo_cons tabs (Checked.mixed Tryz.checked) hbk memo_nil kPL84 x (by simp only [List.mem_cons, List.not_mem_nil, or_false] at hx; subst hx; exact List.mem_cons_self ..)

end Go.Proofs.YtpcngdlglejgeaaGreatDoor.wrapKnown
