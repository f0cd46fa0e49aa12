/- WorldKnown: what the row asks of the program, piece by piece. -/
import Derived.Test.YthmccpflcpijnaaGreatWKnFacts
namespace Go.Proofs.YthmccpflcpijnaaGreat.worldKnown
open Go Go.ChangeShapes Go.WideShapes Go.ChangeAt Go.RowKit
set_option maxRecDepth 100000
theorem k0 : (Rows.worldKnownRow).wf (OpenSpec.ofChange Rows.worldKnownSpec) = true := by kernel_rfl
theorem k3 : Tryz.f6.params.all (Tryz.prog.readableRec ·) = true := by kernel_rfl
theorem k4 : namedTie Tryz.prog Rows.worldKnownRow.named Rows.worldKnownSpec.vars = true := by kernel_rfl
theorem k5 : (Rows.worldKnownRow.stops == []) = true := by kernel_rfl
theorem k7 : (Rows.worldKnownRow.knobs == []) = true := by kernel_rfl
theorem k9 : (Rows.worldKnownRow.inPlace == Tryz.prog.inPlace 6) = true := by kernel_rfl
theorem k10 : (Rows.worldKnownRow.unfollowed == Tryz.prog.unfollowed 6) = true := by kernel_rfl
theorem k11 : (Rows.worldKnownRow.recurses == Tryz.prog.recurses 6) = true := by kernel_rfl
theorem k12 : (Rows.worldKnownRow.named == Tryz.prog.varsNamed 6) = true := by kernel_rfl
theorem k13 : (Rows.worldKnownRow.maps == (Tryz.f6.params.toList ++ Rows.worldKnownSpec.plain.varTypes Tryz.prog).any (Tryz.prog.mapsRec ·)) = true := by kernel_rfl
theorem k14 : (Rows.worldKnownRow.ifaces == (Tryz.f6.params.toList ++ Rows.worldKnownSpec.plain.varTypes Tryz.prog).any (Tryz.prog.ifacesRec ·)) = true := by kernel_rfl
theorem k15 : (Rows.worldKnownRow.mapsOut == Tryz.prog.mapsAmong Tryz.f6.resultTypes.toList) = true := by kernel_rfl
theorem k16 : (Rows.worldKnownRow.loops == (Tryz.f6.params.toList ++ Rows.worldKnownSpec.plain.varTypes Tryz.prog).any (Tryz.prog.loopsFrom ·)) = true := by kernel_rfl
theorem k17 : (Rows.worldKnownRow.wideKeys == (Tryz.f6.params.toList ++ Rows.worldKnownSpec.plain.varTypes Tryz.prog ++ Tryz.f6.resultTypes.toList).any (Tryz.prog.wideKeysFrom ·)) = true := by kernel_rfl
theorem k18 : Rows.worldKnownSpec.vars.all (Tryz.prog.varReadable ·) = true := by kernel_rfl
theorem k19 : Tryz.f6.resultTypes.all (fun t => Tryz.prog.readableRec t && decide (t < Tryz.prog.types.size)) = true := by kernel_rfl
theorem k20 : (Rows.worldKnownRow.ifacesOut == Tryz.f6.resultTypes.toList.any (Tryz.prog.ifacesRec ·)) = true := by kernel_rfl
theorem k21 : (Rows.worldKnownRow.loopsOut == Tryz.f6.resultTypes.toList.any (Tryz.prog.loopsFrom ·)) = true := by kernel_rfl
theorem k22 : (Rows.worldKnownRow.plainKeys == Tryz.prog.plainKeys) = true := by kernel_rfl
theorem k23 : Rows.worldKnownRow.shortTexts.isNone = true := by kernel_rfl
theorem k26 : (Rows.worldKnownRow.lifted == Tryz.prog.liftsFinal) = true := by kernel_rfl
theorem k27 : (Tryz.prog.make == some Rows.worldKnownRow.make) = true := by kernel_rfl
theorem k28 : (Rows.worldKnownRow.kinds == (if Rows.worldKnownRow.domain.isEmpty then [] else Tryz.f6.params.toList.map fun t => match Tryz.prog.underlying t with | some (.int k) => some k | _ => none)) = true := by kernel_rfl
theorem k29 : (Rows.worldKnownRow.pinned == Rows.worldKnownRow.pinnedBy) = true := by kernel_rfl
theorem k30 : (Rows.worldKnownRow.veiled == (Tryz.f6.params.toList ++ Rows.worldKnownSpec.plain.varTypes Tryz.prog ++ Tryz.f6.resultTypes.toList).any (Tryz.prog.veiledRec ·)) = true := by kernel_rfl
theorem k31 : Rows.worldKnownRow.veiledFits Tryz.prog Tryz.f6.params.toList (Tryz.f6.params.toList ++ Rows.worldKnownSpec.plain.varTypes Tryz.prog ++ Tryz.f6.resultTypes.toList) = true := by kernel_rfl
theorem closed : joinedFacts Tryz.prog 6 Tryz.f6 Rows.worldKnownSpec Rows.worldKnownRow = true := kn.both (kn.both (kn.both (kn.both (kn.both (kn.both (kn.both (kn.both (kn.both (kn.both (kn.both (kn.both (kn.both (kn.both (kn.both (kn.both (kn.both (kn.both (kn.both (kn.both (kn.both (kn.both (kn.both (kn.both (kn.both (kn.both (kn.both (kn.both (kn.both (kn.both (kn.both (k0) kn.k1) kn.k2) k3) k4) k5) kn.k6) k7) kn.k8) k9) k10) k11) k12) k13) k14) k15) k16) k17) k18) k19) k20) k21) k22) k23) kn.k24) kn.k25) k26) k27) k28) k29) k30) k31
theorem nfn : Tryz.pinned.checked.prog.funcNamed Rows.worldKnownRow.func = some 6 := by kernel_rfl
theorem inst : Tryz.f6.isInstance Tryz.pinned.checked.prog Rows.worldKnownRow.origin Rows.worldKnownRow.targs := of_decide_eq_true (by kernel_rfl)
theorem wrap : Tryz.f6.isWrapper Tryz.pinned.checked.prog Rows.worldKnownRow.wrapper Rows.worldKnownRow.mainSum := by unfold Func.isWrapper; first | (rw [if_pos (by decide +kernel)]; kernel_rfl) | (rw [if_neg (by decide +kernel)]; exact ⟨rfl, rfl⟩)
end Go.Proofs.YthmccpflcpijnaaGreat.worldKnown
