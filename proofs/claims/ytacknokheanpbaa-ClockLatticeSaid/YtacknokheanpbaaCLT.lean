/-
  The kinds of values of the program, and how they stand in the machine.
-/
import Derived.Test.YtacknokheanpbaaDx16
import Derived.Test.YtacknokheanpbaaChecked
namespace Go.Su.Ytacknokheanpbaa
open Go.Mx Go.Proofs
set_option maxRecDepth 100000
set_option maxHeartbeats 20000000
set_option linter.unusedVariables false
set_option linter.unusedSimpArgs false

structure Arr4_i64 where
  e0 : Int
  e1 : Int
  e2 : Int
  e3 : Int

def eArr4_i64 (x : Arr4_i64) : V := .agg [.p (.int .i64 x.e0), .p (.int .i64 x.e1), .p (.int .i64 x.e2), .p (.int .i64 x.e3)]

def tbl : List (Nat × TI) := [(3, ⟨1, 8, .int .i64, .p (.int .i64 0)⟩),
  (4, ⟨1, 1, .bool, .p (.bool false)⟩),
  (22, ⟨4, 32, .array 4 3, .agg [.p (.int .i64 0), .p (.int .i64 0), .p (.int .i64 0), .p (.int .i64 0)]⟩),
  (23, ⟨4, 32, .array 4 3, .agg [.p (.int .i64 0), .p (.int .i64 0), .p (.int .i64 0), .p (.int .i64 0)]⟩)]
def tb : TypeId → Option TI := lookT tbl
theorem rows : rowsOk Try.prog tbl := ⟨by kernel_rfl, by kernel_rfl, by kernel_rfl, by kernel_rfl, trivial⟩
theorem hT : TabOk Try.prog tb := tab_ok rows (by kernel_rfl)
theorem hM : Try.prog.follows .mixedOrders = true := Checked.mixed Try.checked

theorem en7 : Enters Try.prog 7 := enters Try.f7 Try.func7 rfl (by kernel_rfl)
theorem en8 : Enters Try.prog 8 := enters Try.f8 Try.func8 rfl (by kernel_rfl)
theorem en9 : Enters Try.prog 9 := enters Try.f9 Try.func9 rfl (by kernel_rfl)
theorem en10 : Enters Try.prog 10 := enters Try.f10 Try.func10 rfl (by kernel_rfl)
theorem en11 : Enters Try.prog 11 := enters Try.f11 Try.func11 rfl (by kernel_rfl)
theorem en12 : Enters Try.prog 12 := enters Try.f12 Try.func12 rfl (by kernel_rfl)
theorem en13 : Enters Try.prog 13 := enters Try.f13 Try.func13 rfl (by kernel_rfl)



end Go.Su.Ytacknokheanpbaa
