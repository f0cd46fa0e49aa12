/- The evaluator's answer at SwapKnown. -/
import Derived.Test.YthmccpflcpijnaaGreatWKnTab
import Derived.KernelRfl
namespace Go.Ev
theorem runSwapKnown : run tree.tab 100000 (.fn 5) [] ⟨.e, 0⟩ kB = some true := by kernel_rfl
end Go.Ev
