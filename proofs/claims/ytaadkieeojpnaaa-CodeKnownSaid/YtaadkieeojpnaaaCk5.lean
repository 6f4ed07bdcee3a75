/-
  CodeKnown: a text, read and laid, done ahead.
-/
import Derived.Test.YtaadkieeojpnaaaCkA
import Derived.KernelRfl
namespace Go.Proofs.Ytaadkieeojpnaaa.codeKnown
open Go.Mx
set_option maxRecDepth 1000000

def s5 : V := (.p (.string ⟨#[103, 111, 123, 103, 111, 116, 111, 32, 97, 32, 108, 97, 98, 101, 108, 32, 97, 125]⟩))
def t5 : V := (.tup [(.ps .any [(.agg [(.p (.int .i64 1)), (.p (.string ⟨#[103, 111]⟩)), (.p (.int .i64 0)), (.p (.int .i64 0))]), (.agg [(.p (.int .i64 3)), (.p (.string ⟨#[123]⟩)), (.p (.int .i64 0)), (.p (.int .i64 2))]), (.agg [(.p (.int .i64 1)), (.p (.string ⟨#[103, 111, 116, 111]⟩)), (.p (.int .i64 0)), (.p (.int .i64 3))]), (.agg [(.p (.int .i64 1)), (.p (.string ⟨#[97]⟩)), (.p (.int .i64 0)), (.p (.int .i64 8))]), (.agg [(.p (.int .i64 1)), (.p (.string ⟨#[108, 97, 98, 101, 108]⟩)), (.p (.int .i64 0)), (.p (.int .i64 10))]), (.agg [(.p (.int .i64 1)), (.p (.string ⟨#[97]⟩)), (.p (.int .i64 0)), (.p (.int .i64 16))]), (.agg [(.p (.int .i64 3)), (.p (.string ⟨#[125]⟩)), (.p (.int .i64 0)), (.p (.int .i64 17))]), (.agg [(.p (.int .i64 4)), (.p (.string ⟨#[]⟩)), (.p (.int .i64 0)), (.p (.int .i64 18))])]), (.p (.int .i64 0)), (.p (.int .i64 0))])
def p5 : V := (.agg [(.ps .nil []), (.ps .any [(.ps .any [(.agg [(.p (.int .i64 9)), (.p (.string ⟨#[97]⟩)), (.p (.string ⟨#[]⟩)), (.p (.int .i64 0)), (.p (.int .i64 0)), (.p (.int .i64 0)), (.p (.string ⟨#[]⟩)), (.ps .nil []), (.ps .nil []), (.ps .nil []), (.p (.complex .f64 4607182418800017408 4616189618054758400))]), (.agg [(.p (.int .i64 10)), (.p (.string ⟨#[97]⟩)), (.p (.string ⟨#[]⟩)), (.p (.int .i64 0)), (.p (.int .i64 0)), (.p (.int .i64 0)), (.p (.string ⟨#[]⟩)), (.ps .nil []), (.ps .nil []), (.ps .nil []), (.p (.complex .f64 4607182418800017408 4622382067542392832))])])])])
def eT5 : FuncId × List V × V := (23, [s5], t5)
theorem kT5 : (saysV eT5.2.2 (run [] eT5.1 eT5.2.1) && eT5.2.1.all (pur 6)) = true := by kernel_rfl
theorem mT5 : MemoOk Try.prog [eT5] := fun x hx => memo_cons tabs (Checked.mixed Try.checked) memo_nil kT5 x (by simp only [List.mem_cons, List.not_mem_nil, or_false] at hx; subst hx; exact List.mem_cons_self ..)
def eR5 : FuncId × List V × V := (5, [s5], p5)
theorem kR5 : (saysV eR5.2.2 (run [eT5] eR5.1 eR5.2.1) && eR5.2.1.all (pur 6)) = true := by kernel_rfl
theorem mR5 : MemoOk Try.prog [eR5] := fun x hx => memo_cons tabs (Checked.mixed Try.checked) mT5 kR5 x (by simp only [List.mem_cons, List.not_mem_nil, or_false] at hx; subst hx; exact List.mem_cons_self ..)
def eL5 : FuncId × List V × V := (4, [p5], (.tup [(.agg [(.ps .nil []), (.ps .full [(.ps .full [(.agg [(.p (.int .i64 5)), (.p (.int .i64 1)), (.p (.int .i64 0)), (.p (.int .i64 0)), (.p (.int .i64 0))])])])]), (.p (.int .i64 0))]))
theorem kL5 : (saysV eL5.2.2 (run [] eL5.1 eL5.2.1) && eL5.2.1.all (pur 6)) = true := by kernel_rfl
theorem mL5 : MemoOk Try.prog [eL5] := fun x hx => memo_cons tabs (Checked.mixed Try.checked) memo_nil kL5 x (by simp only [List.mem_cons, List.not_mem_nil, or_false] at hx; subst hx; exact List.mem_cons_self ..)

end Go.Proofs.Ytaadkieeojpnaaa.codeKnown
