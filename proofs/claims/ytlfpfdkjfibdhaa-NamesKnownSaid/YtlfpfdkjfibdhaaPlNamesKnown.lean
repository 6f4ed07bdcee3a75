/-
  NamesKnown: what its code computes is true: by computing it.
-/
import Derived.Test.YtlfpfdkjfibdhaaNKF
import Derived.KernelRfl
namespace Go.Su.Ytlfpfdkjfibdhaa
set_option maxRecDepth 1000000
theorem law8_NamesKnown_true : ∃ n, law8_NamesKnown n = some true := ⟨300, by kernel_rfl⟩
end Go.Su.Ytlfpfdkjfibdhaa
