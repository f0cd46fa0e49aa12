/- The evaluator's answer at FateKnown. -/
import Derived.Test.YthmccpflcpijnaaGreatWKnTab
import Derived.KernelRfl
namespace Go.Ev
theorem runFateKnown : run tree.tab 100000 (.fn 4) [] ⟨.e, 0⟩ kB = some true := by kernel_rfl
end Go.Ev
