/-
  WrapKnown: its example, done ahead.
-/
import Derived.Test.YtpcngdlglejgeaaGreatDoorWkA
import Derived.KernelRfl
namespace Go.Proofs.YtpcngdlglejgeaaGreatDoor.wrapKnown
open Go.Mx
set_option maxRecDepth 1000000

def eT0 : FuncId × List V × V := (26, [(.p (.string ⟨#[118, 97, 114, 32, 120, 32, 103, 111, 123, 120, 32, 61, 32, 49, 125]⟩))], (.tup [(.ps .any [(.agg [(.p (.int .i64 1)), (.p (.string ⟨#[118, 97, 114]⟩)), (.p (.int .i64 0)), (.p (.int .i64 0))]), (.agg [(.p (.int .i64 1)), (.p (.string ⟨#[120]⟩)), (.p (.int .i64 0)), (.p (.int .i64 4))]), (.agg [(.p (.int .i64 1)), (.p (.string ⟨#[103, 111]⟩)), (.p (.int .i64 0)), (.p (.int .i64 6))]), (.agg [(.p (.int .i64 3)), (.p (.string ⟨#[123]⟩)), (.p (.int .i64 0)), (.p (.int .i64 8))]), (.agg [(.p (.int .i64 1)), (.p (.string ⟨#[120]⟩)), (.p (.int .i64 0)), (.p (.int .i64 9))]), (.agg [(.p (.int .i64 3)), (.p (.string ⟨#[61]⟩)), (.p (.int .i64 0)), (.p (.int .i64 11))]), (.agg [(.p (.int .i64 2)), (.p (.string ⟨#[49]⟩)), (.p (.int .i64 1)), (.p (.int .i64 13))]), (.agg [(.p (.int .i64 3)), (.p (.string ⟨#[125]⟩)), (.p (.int .i64 0)), (.p (.int .i64 14))]), (.agg [(.p (.int .i64 4)), (.p (.string ⟨#[]⟩)), (.p (.int .i64 0)), (.p (.int .i64 15))])]), (.p (.int .i64 0)), (.p (.int .i64 0))]))
theorem kT0 : (saysV eT0.2.2 (run [] eT0.1 eT0.2.1) && eT0.2.1.all (pur 6)) = true := by kernel_rfl
theorem mT0 : MemoOk Tryz.prog [eT0] := fun x hx => memo_cons tabs (Checked.mixed Tryz.checked) hbk memo_nil kT0 x (by simp only [List.mem_cons, List.not_mem_nil, or_false] at hx; subst hx; exact List.mem_cons_self ..)
def eR0 : FuncId × List V × V := (4, [(.p (.string ⟨#[118, 97, 114, 32, 120, 32, 103, 111, 123, 120, 32, 61, 32, 49, 125]⟩))], xR0)
theorem kR0 : (saysV eR0.2.2 (run [eT0] eR0.1 eR0.2.1) && eR0.2.1.all (pur 6)) = true := by kernel_rfl
theorem mR0 : MemoOk Tryz.prog [eR0] := fun x hx => memo_cons tabs (Checked.mixed Tryz.checked) hbk mT0 kR0 x (by simp only [List.mem_cons, List.not_mem_nil, or_false] at hx; subst hx; exact List.mem_cons_self ..)
def eW0 : FuncId × List V × V := (5, [xR0, (.ps .any [(.agg [(.p (.bool true)), (.ps .any [(.p (.int .i64 0))]), (.p (.complex .f64 0 0))])])], (.tup [(.agg [(.ps .any [(.agg [(.p (.int .i64 1)), (.p (.string ⟨#[120]⟩)), (.p (.int .i64 0)), (.p (.complex .f64 4607182418800017408 4607182418800017408))]), (.agg [(.p (.int .i64 5)), (.p (.string ⟨#[102, 105, 120, 48]⟩)), (.p (.int .i64 0)), (.p (.complex .f64 0 0))])]), (.ps .any [(.ps .any [(.agg [(.p (.int .i64 2)), (.p (.string ⟨#[102, 105, 120, 48]⟩)), (.p (.string ⟨#[]⟩)), (.p (.int .i64 0)), (.p (.int .i64 0)), (.p (.int .i64 0)), (.p (.string ⟨#[]⟩)), (.ps .nil []), (.ps .nil []), (.ps .nil []), (.p (.complex .f64 0 0))]), (.agg [(.p (.int .i64 1)), (.p (.string ⟨#[120]⟩)), (.p (.string ⟨#[]⟩)), (.p (.int .i64 0)), (.p (.int .i64 1)), (.p (.int .i64 1)), (.p (.string ⟨#[]⟩)), (.ps .nil []), (.ps .nil []), (.ps .nil []), (.p (.complex .f64 4607182418800017408 4621819117588971520))]), (.agg [(.p (.int .i64 3)), (.p (.string ⟨#[102, 105, 120, 48]⟩)), (.p (.string ⟨#[]⟩)), (.p (.int .i64 0)), (.p (.int .i64 0)), (.p (.int .i64 0)), (.p (.string ⟨#[]⟩)), (.ps .nil []), (.ps .nil []), (.ps .nil []), (.p (.complex .f64 0 0))])])])]), (.ps .any [(.p (.string ⟨#[102, 105, 120, 48]⟩))]), (.p (.int .i64 0))]))
theorem kW0 : (saysV eW0.2.2 (run [] eW0.1 eW0.2.1) && eW0.2.1.all (pur 6)) = true := by kernel_rfl
theorem mW0 : MemoOk Tryz.prog [eW0] := fun x hx => memo_cons tabs (Checked.mixed Tryz.checked) hbk memo_nil kW0 x (by simp only [List.mem_cons, List.not_mem_nil, or_false] at hx; subst hx; exact List.mem_cons_self ..)
def eK : FuncId × List V × V := (9, [], (.p (.bool true)))
theorem kK : (saysV eK.2.2 (run [eR0, eW0] eK.1 eK.2.1) && eK.2.1.all (pur 6)) = true := by kernel_rfl
theorem mK : MemoOk Tryz.prog [eK] := fun x hx => memo_cons tabs (Checked.mixed Tryz.checked) hbk (fun x hx => by
  simp only [List.mem_cons, List.not_mem_nil, or_false] at hx
  rcases hx with rfl | rfl
  · exact mR0 _ (List.mem_cons_self ..)
  · exact mW0 _ (List.mem_cons_self ..)) kK x (by simp only [List.mem_cons, List.not_mem_nil, or_false] at hx; subst hx; exact List.mem_cons_self ..)

end Go.Proofs.YtpcngdlglejgeaaGreatDoor.wrapKnown
