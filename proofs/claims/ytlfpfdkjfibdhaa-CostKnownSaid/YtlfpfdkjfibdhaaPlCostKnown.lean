/-
  CostKnown: what its code computes is true: by computing it.
-/
import Derived.Test.YtlfpfdkjfibdhaaCKF
import Derived.KernelRfl
namespace Go.Su.Ytlfpfdkjfibdhaa
set_option maxRecDepth 1000000
theorem law22_CostKnown_true : ∃ n, law22_CostKnown n = some true := ⟨300, by kernel_rfl⟩
end Go.Su.Ytlfpfdkjfibdhaa
