/-
  CandsKnown: what its code computes is true: by computing it.
-/
import Derived.Test.YtcadbebhhnggdaaZkCKF
import Derived.KernelRfl
namespace Go.Su.Ytcadbebhhnggdaa
set_option maxRecDepth 1000000
theorem law23_CandsKnown_true : ∃ n,law23_CandsKnown n = some true:=⟨200,by kernel_rfl⟩
end Go.Su.Ytcadbebhhnggdaa
