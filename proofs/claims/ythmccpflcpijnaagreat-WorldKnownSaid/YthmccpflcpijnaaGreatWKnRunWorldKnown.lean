/- The evaluator's answer at WorldKnown. -/
import Derived.Test.YthmccpflcpijnaaGreatWKnTab
import Derived.KernelRfl
namespace Go.Ev
theorem runWorldKnown : run tree.tab 100000 (.fn 6) [] ⟨.e, 0⟩ kB = some true := by kernel_rfl
end Go.Ev
