/-
  CodeKnown: a text, read and laid, done ahead.
-/
import Derived.Test.YtaadkieeojpnaaaCkA
import Derived.KernelRfl
namespace Go.Proofs.Ytaadkieeojpnaaa.codeKnown
open Go.Mx
set_option maxRecDepth 1000000

def s4 : V := (.p (.string ⟨#[103, 111, 123, 103, 111, 116, 111, 32, 97, 125]⟩))
def t4 : V := (.tup [(.ps .any [(.agg [(.p (.int .i64 1)), (.p (.string ⟨#[103, 111]⟩)), (.p (.int .i64 0)), (.p (.int .i64 0))]), (.agg [(.p (.int .i64 3)), (.p (.string ⟨#[123]⟩)), (.p (.int .i64 0)), (.p (.int .i64 2))]), (.agg [(.p (.int .i64 1)), (.p (.string ⟨#[103, 111, 116, 111]⟩)), (.p (.int .i64 0)), (.p (.int .i64 3))]), (.agg [(.p (.int .i64 1)), (.p (.string ⟨#[97]⟩)), (.p (.int .i64 0)), (.p (.int .i64 8))]), (.agg [(.p (.int .i64 3)), (.p (.string ⟨#[125]⟩)), (.p (.int .i64 0)), (.p (.int .i64 9))]), (.agg [(.p (.int .i64 4)), (.p (.string ⟨#[]⟩)), (.p (.int .i64 0)), (.p (.int .i64 10))])]), (.p (.int .i64 0)), (.p (.int .i64 0))])
def p4 : V := (.agg [(.ps .nil []), (.ps .any [(.ps .any [(.agg [(.p (.int .i64 9)), (.p (.string ⟨#[97]⟩)), (.p (.string ⟨#[]⟩)), (.p (.int .i64 0)), (.p (.int .i64 0)), (.p (.int .i64 0)), (.p (.string ⟨#[]⟩)), (.ps .nil []), (.ps .nil []), (.ps .nil []), (.p (.complex .f64 4607182418800017408 4616189618054758400))])])])])
def eT4 : FuncId × List V × V := (23, [s4], t4)
theorem kT4 : (saysV eT4.2.2 (run [] eT4.1 eT4.2.1) && eT4.2.1.all (pur 6)) = true := by kernel_rfl
theorem mT4 : MemoOk Try.prog [eT4] := fun x hx => memo_cons tabs (Checked.mixed Try.checked) memo_nil kT4 x (by simp only [List.mem_cons, List.not_mem_nil, or_false] at hx; subst hx; exact List.mem_cons_self ..)
def eR4 : FuncId × List V × V := (5, [s4], p4)
theorem kR4 : (saysV eR4.2.2 (run [eT4] eR4.1 eR4.2.1) && eR4.2.1.all (pur 6)) = true := by kernel_rfl
theorem mR4 : MemoOk Try.prog [eR4] := fun x hx => memo_cons tabs (Checked.mixed Try.checked) mT4 kR4 x (by simp only [List.mem_cons, List.not_mem_nil, or_false] at hx; subst hx; exact List.mem_cons_self ..)
def eL4 : FuncId × List V × V := (4, [p4], (.tup [(.agg [(.ps .nil []), (.ps .nil [])]), (.p (.int .i64 4))]))
theorem kL4 : (saysV eL4.2.2 (run [] eL4.1 eL4.2.1) && eL4.2.1.all (pur 6)) = true := by kernel_rfl
theorem mL4 : MemoOk Try.prog [eL4] := fun x hx => memo_cons tabs (Checked.mixed Try.checked) memo_nil kL4 x (by simp only [List.mem_cons, List.not_mem_nil, or_false] at hx; subst hx; exact List.mem_cons_self ..)

end Go.Proofs.Ytaadkieeojpnaaa.codeKnown
