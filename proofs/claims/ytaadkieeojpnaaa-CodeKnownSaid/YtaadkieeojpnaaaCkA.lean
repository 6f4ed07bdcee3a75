/-
  CodeKnown: how its code is run.
-/
import Derived.Test.YtaadkieeojpnaaaNy22
import Derived.Test.YtaadkieeojpnaaaChecked
import Derived.KernelRfl
namespace Go.Proofs.Ytaadkieeojpnaaa.codeKnown
open Go.Mx
set_option maxRecDepth 100000

def modes : FuncId → Nat := fun g => bif Nat.testBit 8051455403382544572161722368 g then 1 else bif Nat.testBit 9671485315867316852883456 g then 3 else bif Nat.testBit 58330670796405857679574016 g then 2 else 0
def dp : TypeId → Bool := fun _ => false
def fz : FuncId → Bool := fun _ => false
theorem tabs : tabAll Try.prog = true := by kernel_rfl
noncomputable abbrev run (memo : Memo) (g : FuncId) (vs : List V) : Option (V × Hp × Nat) := zFn Try.prog (tabRowM Try.prog) dp fz (funOf Try.prog) modes memo 300 40 g vs [] 0

end Go.Proofs.Ytaadkieeojpnaaa.codeKnown
