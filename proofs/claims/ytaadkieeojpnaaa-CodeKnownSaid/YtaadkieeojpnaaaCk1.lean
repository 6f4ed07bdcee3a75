/-
  CodeKnown: a text, read and laid, done ahead.
-/
import Derived.Test.YtaadkieeojpnaaaCkA
import Derived.KernelRfl
namespace Go.Proofs.Ytaadkieeojpnaaa.codeKnown
open Go.Mx
set_option maxRecDepth 1000000

def s1 : V := (.p (.string ⟨#[118, 97, 114, 32, 120, 32, 118, 97, 114, 32, 120, 32, 103, 111, 123, 103, 111, 116, 111, 32, 97, 125]⟩))
def t1 : V := (.tup [(.ps .any [(.agg [(.p (.int .i64 1)), (.p (.string ⟨#[118, 97, 114]⟩)), (.p (.int .i64 0)), (.p (.int .i64 0))]), (.agg [(.p (.int .i64 1)), (.p (.string ⟨#[120]⟩)), (.p (.int .i64 0)), (.p (.int .i64 4))]), (.agg [(.p (.int .i64 1)), (.p (.string ⟨#[118, 97, 114]⟩)), (.p (.int .i64 0)), (.p (.int .i64 6))]), (.agg [(.p (.int .i64 1)), (.p (.string ⟨#[120]⟩)), (.p (.int .i64 0)), (.p (.int .i64 10))]), (.agg [(.p (.int .i64 1)), (.p (.string ⟨#[103, 111]⟩)), (.p (.int .i64 0)), (.p (.int .i64 12))]), (.agg [(.p (.int .i64 3)), (.p (.string ⟨#[123]⟩)), (.p (.int .i64 0)), (.p (.int .i64 14))]), (.agg [(.p (.int .i64 1)), (.p (.string ⟨#[103, 111, 116, 111]⟩)), (.p (.int .i64 0)), (.p (.int .i64 15))]), (.agg [(.p (.int .i64 1)), (.p (.string ⟨#[97]⟩)), (.p (.int .i64 0)), (.p (.int .i64 20))]), (.agg [(.p (.int .i64 3)), (.p (.string ⟨#[125]⟩)), (.p (.int .i64 0)), (.p (.int .i64 21))]), (.agg [(.p (.int .i64 4)), (.p (.string ⟨#[]⟩)), (.p (.int .i64 0)), (.p (.int .i64 22))])]), (.p (.int .i64 0)), (.p (.int .i64 0))])
def p1 : V := (.agg [(.ps .any [(.agg [(.p (.int .i64 1)), (.p (.string ⟨#[120]⟩)), (.p (.int .i64 0)), (.p (.complex .f64 4607182418800017408 4607182418800017408))]), (.agg [(.p (.int .i64 1)), (.p (.string ⟨#[120]⟩)), (.p (.int .i64 0)), (.p (.complex .f64 4607182418800017408 4619567317775286272))])]), (.ps .any [(.ps .any [(.agg [(.p (.int .i64 9)), (.p (.string ⟨#[97]⟩)), (.p (.string ⟨#[]⟩)), (.p (.int .i64 0)), (.p (.int .i64 0)), (.p (.int .i64 0)), (.p (.string ⟨#[]⟩)), (.ps .nil []), (.ps .nil []), (.ps .nil []), (.p (.complex .f64 4607182418800017408 4625196817309499392))])])])])
def eT1 : FuncId × List V × V := (23, [s1], t1)
theorem kT1 : (saysV eT1.2.2 (run [] eT1.1 eT1.2.1) && eT1.2.1.all (pur 6)) = true := by kernel_rfl
theorem mT1 : MemoOk Try.prog [eT1] := fun x hx => memo_cons tabs (Checked.mixed Try.checked) memo_nil kT1 x (by simp only [List.mem_cons, List.not_mem_nil, or_false] at hx; subst hx; exact List.mem_cons_self ..)
def eR1 : FuncId × List V × V := (5, [s1], p1)
theorem kR1 : (saysV eR1.2.2 (run [eT1] eR1.1 eR1.2.1) && eR1.2.1.all (pur 6)) = true := by kernel_rfl
theorem mR1 : MemoOk Try.prog [eR1] := fun x hx => memo_cons tabs (Checked.mixed Try.checked) mT1 kR1 x (by simp only [List.mem_cons, List.not_mem_nil, or_false] at hx; subst hx; exact List.mem_cons_self ..)
def eL1 : FuncId × List V × V := (7, [p1], (.tup [(.p (.complex .f64 4607182418800017408 4619567317775286272)), (.p (.int .i64 3))]))
theorem kL1 : (saysV eL1.2.2 (run [] eL1.1 eL1.2.1) && eL1.2.1.all (pur 6)) = true := by kernel_rfl
theorem mL1 : MemoOk Try.prog [eL1] := fun x hx => memo_cons tabs (Checked.mixed Try.checked) memo_nil kL1 x (by simp only [List.mem_cons, List.not_mem_nil, or_false] at hx; subst hx; exact List.mem_cons_self ..)

end Go.Proofs.Ytaadkieeojpnaaa.codeKnown
