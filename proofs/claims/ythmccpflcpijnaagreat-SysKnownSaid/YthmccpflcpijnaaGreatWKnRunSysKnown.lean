/- The evaluator's answer at SysKnown. -/
import Derived.Test.YthmccpflcpijnaaGreatWKnTab
import Derived.KernelRfl
namespace Go.Ev
theorem runSysKnown : run tree.tab 100000 (.fn 3) [] ⟨.e, 0⟩ kB = some true := by kernel_rfl
end Go.Ev
