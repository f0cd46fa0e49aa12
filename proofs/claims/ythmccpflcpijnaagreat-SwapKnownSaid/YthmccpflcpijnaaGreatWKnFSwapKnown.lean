/- SwapKnown: what the row asks of the program, piece by piece. -/
import Derived.Test.YthmccpflcpijnaaGreatWKnFacts
namespace Go.Proofs.YthmccpflcpijnaaGreat.swapKnown
open Go Go.ChangeShapes Go.WideShapes Go.ChangeAt Go.RowKit
set_option maxRecDepth 100000
theorem k0 : (Rows.swapKnownRow).wf (OpenSpec.ofChange Rows.swapKnownSpec) = true := by kernel_rfl
theorem k3 : Tryz.f5.params.all (Tryz.prog.readableRec ·) = true := by kernel_rfl
theorem k4 : namedTie Tryz.prog Rows.swapKnownRow.named Rows.swapKnownSpec.vars = true := by kernel_rfl
theorem k5 : (Rows.swapKnownRow.stops == []) = true := by kernel_rfl
theorem k7 : (Rows.swapKnownRow.knobs == []) = true := by kernel_rfl
theorem k9 : (Rows.swapKnownRow.inPlace == Tryz.prog.inPlace 5) = true := by kernel_rfl
theorem k10 : (Rows.swapKnownRow.unfollowed == Tryz.prog.unfollowed 5) = true := by kernel_rfl
theorem k11 : (Rows.swapKnownRow.recurses == Tryz.prog.recurses 5) = true := by kernel_rfl
theorem k12 : (Rows.swapKnownRow.named == Tryz.prog.varsNamed 5) = true := by kernel_rfl
theorem k13 : (Rows.swapKnownRow.maps == (Tryz.f5.params.toList ++ Rows.swapKnownSpec.plain.varTypes Tryz.prog).any (Tryz.prog.mapsRec ·)) = true := by kernel_rfl
theorem k14 : (Rows.swapKnownRow.ifaces == (Tryz.f5.params.toList ++ Rows.swapKnownSpec.plain.varTypes Tryz.prog).any (Tryz.prog.ifacesRec ·)) = true := by kernel_rfl
theorem k15 : (Rows.swapKnownRow.mapsOut == Tryz.prog.mapsAmong Tryz.f5.resultTypes.toList) = true := by kernel_rfl
theorem k16 : (Rows.swapKnownRow.loops == (Tryz.f5.params.toList ++ Rows.swapKnownSpec.plain.varTypes Tryz.prog).any (Tryz.prog.loopsFrom ·)) = true := by kernel_rfl
theorem k17 : (Rows.swapKnownRow.wideKeys == (Tryz.f5.params.toList ++ Rows.swapKnownSpec.plain.varTypes Tryz.prog ++ Tryz.f5.resultTypes.toList).any (Tryz.prog.wideKeysFrom ·)) = true := by kernel_rfl
theorem k18 : Rows.swapKnownSpec.vars.all (Tryz.prog.varReadable ·) = true := by kernel_rfl
theorem k19 : Tryz.f5.resultTypes.all (fun t => Tryz.prog.readableRec t && decide (t < Tryz.prog.types.size)) = true := by kernel_rfl
theorem k20 : (Rows.swapKnownRow.ifacesOut == Tryz.f5.resultTypes.toList.any (Tryz.prog.ifacesRec ·)) = true := by kernel_rfl
theorem k21 : (Rows.swapKnownRow.loopsOut == Tryz.f5.resultTypes.toList.any (Tryz.prog.loopsFrom ·)) = true := by kernel_rfl
theorem k22 : (Rows.swapKnownRow.plainKeys == Tryz.prog.plainKeys) = true := by kernel_rfl
theorem k23 : Rows.swapKnownRow.shortTexts.isNone = true := by kernel_rfl
theorem k26 : (Rows.swapKnownRow.lifted == Tryz.prog.liftsFinal) = true := by kernel_rfl
theorem k27 : (Tryz.prog.make == some Rows.swapKnownRow.make) = true := by kernel_rfl
theorem k28 : (Rows.swapKnownRow.kinds == (if Rows.swapKnownRow.domain.isEmpty then [] else Tryz.f5.params.toList.map fun t => match Tryz.prog.underlying t with | some (.int k) => some k | _ => none)) = true := by kernel_rfl
theorem k29 : (Rows.swapKnownRow.pinned == Rows.swapKnownRow.pinnedBy) = true := by kernel_rfl
theorem k30 : (Rows.swapKnownRow.veiled == (Tryz.f5.params.toList ++ Rows.swapKnownSpec.plain.varTypes Tryz.prog ++ Tryz.f5.resultTypes.toList).any (Tryz.prog.veiledRec ·)) = true := by kernel_rfl
theorem k31 : Rows.swapKnownRow.veiledFits Tryz.prog Tryz.f5.params.toList (Tryz.f5.params.toList ++ Rows.swapKnownSpec.plain.varTypes Tryz.prog ++ Tryz.f5.resultTypes.toList) = true := by kernel_rfl
theorem closed : joinedFacts Tryz.prog 5 Tryz.f5 Rows.swapKnownSpec Rows.swapKnownRow = true := kn.both (kn.both (kn.both (kn.both (kn.both (kn.both (kn.both (kn.both (kn.both (kn.both (kn.both (kn.both (kn.both (kn.both (kn.both (kn.both (kn.both (kn.both (kn.both (kn.both (kn.both (kn.both (kn.both (kn.both (kn.both (kn.both (kn.both (kn.both (kn.both (kn.both (kn.both (k0) kn.k1) kn.k2) k3) k4) k5) kn.k6) k7) kn.k8) k9) k10) k11) k12) k13) k14) k15) k16) k17) k18) k19) k20) k21) k22) k23) kn.k24) kn.k25) k26) k27) k28) k29) k30) k31
theorem nfn : Tryz.pinned.checked.prog.funcNamed Rows.swapKnownRow.func = some 5 := by kernel_rfl
theorem inst : Tryz.f5.isInstance Tryz.pinned.checked.prog Rows.swapKnownRow.origin Rows.swapKnownRow.targs := of_decide_eq_true (by kernel_rfl)
theorem wrap : Tryz.f5.isWrapper Tryz.pinned.checked.prog Rows.swapKnownRow.wrapper Rows.swapKnownRow.mainSum := by unfold Func.isWrapper; first | (rw [if_pos (by decide +kernel)]; kernel_rfl) | (rw [if_neg (by decide +kernel)]; exact ⟨rfl, rfl⟩)
end Go.Proofs.YthmccpflcpijnaaGreat.swapKnown
