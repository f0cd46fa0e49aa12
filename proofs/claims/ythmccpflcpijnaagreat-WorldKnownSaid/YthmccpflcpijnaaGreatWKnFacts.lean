/- Facts of the whole program that each row asks. -/
import Derived.Test.YthmccpflcpijnaaGreatRows
import Derived.WalkKit
import Derived.ProofKit
import Derived.KernelRfl
import Derived.OpenShut
namespace Go.Proofs.YthmccpflcpijnaaGreat.kn
open Go Go.ChangeShapes Go.WideShapes Go.ChangeAt Go.RowKit
theorem k1 : laidOutB Tryz.prog = true := by kernel_rfl
theorem k2 : mapsRowed Tryz.prog = true := by kernel_rfl
theorem k6 : (Tryz.prog.stops == []) = true := by kernel_rfl
theorem k8 : (Tryz.prog.stopKnobs == []) = true := by kernel_rfl
theorem k24 : Tryz.prog.stopsHeard = true := by kernel_rfl
theorem k25 : Tryz.prog.mayEnter = true := by kernel_rfl
theorem both {a b : Bool} (h : a = true) (i : b = true) : (a && b) = true := by rw [h, i]; rfl
theorem own : ownKnob Tryz.prog.godebug = none := by kernel_rfl
theorem mixed : Tryz.prog.follows .mixedOrders = true := by kernel_rfl
end Go.Proofs.YthmccpflcpijnaaGreat.kn
