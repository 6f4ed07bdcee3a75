/-
  RankKnown: what its code computes is true: by computing it.
-/
import Derived.Test.YtcadbebhhnggdaaZRKPa
import Derived.KernelRfl
namespace Go.Su.Ytcadbebhhnggdaa
set_option maxRecDepth 1000000
theorem law25_RankKnown_true : ∃ n,law25_RankKnown n = some true:=⟨200,by kernel_rfl⟩
end Go.Su.Ytcadbebhhnggdaa
