/-
  WrapKnown: two locks, done ahead.
-/
import Derived.Test.YtpcngdlglejgeaaGreatDoorWkA
import Derived.KernelRfl
namespace Go.Proofs.YtpcngdlglejgeaaGreatDoor.wrapKnown
open Go.Mx
set_option maxRecDepth 1000000

def eO1 : FuncId × List V × V := (15, [xR1, (.ps .any [(.ps .any [(.p (.string ⟨#[120]⟩))]), (.ps .any [(.p (.string ⟨#[121]⟩))])])], (.tup [(.ps .any [(.p (.int .i64 1)), (.p (.int .i64 0))]), (.p (.int .i64 0))]))
theorem kO1 : (saysV eO1.2.2 (run [] eO1.1 eO1.2.1) && eO1.2.1.all (pur 6)) = true := by kernel_rfl
theorem mO1 : MemoOk Tryz.prog [eO1] := fun x hx => memo_cons tabs (Checked.mixed Tryz.checked) hbk memo_nil kO1 x (by simp only [List.mem_cons, List.not_mem_nil, or_false] at hx; subst hx; exact List.mem_cons_self ..)
def eC1 : FuncId × List V × V := (17, [xR1, (.ps .any [(.p (.string ⟨#[120]⟩))])], (.ps .any [(.p (.int .i64 1)), (.p (.int .i64 2)), (.p (.int .i64 8))]))
theorem kC1 : (saysV eC1.2.2 (run [] eC1.1 eC1.2.1) && eC1.2.1.all (pur 6)) = true := by kernel_rfl
theorem mC1 : MemoOk Tryz.prog [eC1] := fun x hx => memo_cons tabs (Checked.mixed Tryz.checked) hbk memo_nil kC1 x (by simp only [List.mem_cons, List.not_mem_nil, or_false] at hx; subst hx; exact List.mem_cons_self ..)
def eC2 : FuncId × List V × V := (17, [xR1, (.ps .any [(.p (.string ⟨#[121]⟩))])], (.ps .any [(.p (.int .i64 0)), (.p (.int .i64 8))]))
theorem kC2 : (saysV eC2.2.2 (run [] eC2.1 eC2.2.1) && eC2.2.1.all (pur 6)) = true := by kernel_rfl
theorem mC2 : MemoOk Tryz.prog [eC2] := fun x hx => memo_cons tabs (Checked.mixed Tryz.checked) hbk memo_nil kC2 x (by simp only [List.mem_cons, List.not_mem_nil, or_false] at hx; subst hx; exact List.mem_cons_self ..)
def eF1 : FuncId × List V × V := (8, [xR1, (.p (.int .i64 2))], (.ps .any [(.p (.string ⟨#[102, 105, 120, 50]⟩)), (.p (.string ⟨#[102, 105, 120, 51]⟩))]))
theorem kF1 : (saysV eF1.2.2 (run [] eF1.1 eF1.2.1) && eF1.2.1.all (pur 6)) = true := by kernel_rfl
theorem mF1 : MemoOk Tryz.prog [eF1] := fun x hx => memo_cons tabs (Checked.mixed Tryz.checked) hbk memo_nil kF1 x (by simp only [List.mem_cons, List.not_mem_nil, or_false] at hx; subst hx; exact List.mem_cons_self ..)
def eW1 : FuncId × List V × V := (5, [xR1, (.ps .full [(.agg [(.p (.bool true)), (.ps .full [(.p (.int .i64 1))]), (.p (.complex .f64 0 0))]), (.agg [(.p (.bool true)), (.ps .full [(.p (.int .i64 2))]), (.p (.complex .f64 0 0))]), (.agg [(.p (.bool false)), (.ps .any [(.p (.int .i64 3))]), (.p (.complex .f64 0 0))])])], (.tup [xQ, (.ps .any [(.p (.string ⟨#[102, 105, 120, 50]⟩)), (.p (.string ⟨#[102, 105, 120, 51]⟩))]), (.p (.int .i64 0))]))
theorem kW1 : (saysV eW1.2.2 (run [eO1, eC1, eC2, eF1] eW1.1 eW1.2.1) && eW1.2.1.all (pur 6)) = true := by kernel_rfl
theorem mW1 : MemoOk Tryz.prog [eW1] := fun x hx => memo_cons tabs (Checked.mixed Tryz.checked) hbk (fun x hx => by
  simp only [List.mem_cons, List.not_mem_nil, or_false] at hx
  rcases hx with rfl | rfl | rfl | rfl
  · exact mO1 _ (List.mem_cons_self ..)
  · exact mC1 _ (List.mem_cons_self ..)
  · exact mC2 _ (List.mem_cons_self ..)
  · exact mF1 _ (List.mem_cons_self ..)) kW1 x (by simp only [List.mem_cons, List.not_mem_nil, or_false] at hx; subst hx; exact List.mem_cons_self ..)

end Go.Proofs.YtpcngdlglejgeaaGreatDoor.wrapKnown
