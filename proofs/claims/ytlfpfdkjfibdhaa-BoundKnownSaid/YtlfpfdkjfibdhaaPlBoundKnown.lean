/-
  BoundKnown: what its code computes is true: by computing it.
-/
import Derived.Test.YtlfpfdkjfibdhaaBKF
import Derived.KernelRfl
namespace Go.Su.Ytlfpfdkjfibdhaa
set_option maxRecDepth 1000000
theorem law10_BoundKnown_true : ∃ n, law10_BoundKnown n = some true := ⟨300, by kernel_rfl⟩
end Go.Su.Ytlfpfdkjfibdhaa
