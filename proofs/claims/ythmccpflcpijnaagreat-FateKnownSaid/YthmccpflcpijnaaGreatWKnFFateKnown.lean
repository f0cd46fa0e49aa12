/- FateKnown: what the row asks of the program, piece by piece. -/
import Derived.Test.YthmccpflcpijnaaGreatWKnFacts
namespace Go.Proofs.YthmccpflcpijnaaGreat.fateKnown
open Go Go.ChangeShapes Go.WideShapes Go.ChangeAt Go.RowKit
set_option maxRecDepth 100000
theorem k0 : (Rows.fateKnownRow).wf (OpenSpec.ofChange Rows.fateKnownSpec) = true := by kernel_rfl
theorem k3 : Tryz.f4.params.all (Tryz.prog.readableRec ·) = true := by kernel_rfl
theorem k4 : namedTie Tryz.prog Rows.fateKnownRow.named Rows.fateKnownSpec.vars = true := by kernel_rfl
theorem k5 : (Rows.fateKnownRow.stops == []) = true := by kernel_rfl
theorem k7 : (Rows.fateKnownRow.knobs == []) = true := by kernel_rfl
theorem k9 : (Rows.fateKnownRow.inPlace == Tryz.prog.inPlace 4) = true := by kernel_rfl
theorem k10 : (Rows.fateKnownRow.unfollowed == Tryz.prog.unfollowed 4) = true := by kernel_rfl
theorem k11 : (Rows.fateKnownRow.recurses == Tryz.prog.recurses 4) = true := by kernel_rfl
theorem k12 : (Rows.fateKnownRow.named == Tryz.prog.varsNamed 4) = true := by kernel_rfl
theorem k13 : (Rows.fateKnownRow.maps == (Tryz.f4.params.toList ++ Rows.fateKnownSpec.plain.varTypes Tryz.prog).any (Tryz.prog.mapsRec ·)) = true := by kernel_rfl
theorem k14 : (Rows.fateKnownRow.ifaces == (Tryz.f4.params.toList ++ Rows.fateKnownSpec.plain.varTypes Tryz.prog).any (Tryz.prog.ifacesRec ·)) = true := by kernel_rfl
theorem k15 : (Rows.fateKnownRow.mapsOut == Tryz.prog.mapsAmong Tryz.f4.resultTypes.toList) = true := by kernel_rfl
theorem k16 : (Rows.fateKnownRow.loops == (Tryz.f4.params.toList ++ Rows.fateKnownSpec.plain.varTypes Tryz.prog).any (Tryz.prog.loopsFrom ·)) = true := by kernel_rfl
theorem k17 : (Rows.fateKnownRow.wideKeys == (Tryz.f4.params.toList ++ Rows.fateKnownSpec.plain.varTypes Tryz.prog ++ Tryz.f4.resultTypes.toList).any (Tryz.prog.wideKeysFrom ·)) = true := by kernel_rfl
theorem k18 : Rows.fateKnownSpec.vars.all (Tryz.prog.varReadable ·) = true := by kernel_rfl
theorem k19 : Tryz.f4.resultTypes.all (fun t => Tryz.prog.readableRec t && decide (t < Tryz.prog.types.size)) = true := by kernel_rfl
theorem k20 : (Rows.fateKnownRow.ifacesOut == Tryz.f4.resultTypes.toList.any (Tryz.prog.ifacesRec ·)) = true := by kernel_rfl
theorem k21 : (Rows.fateKnownRow.loopsOut == Tryz.f4.resultTypes.toList.any (Tryz.prog.loopsFrom ·)) = true := by kernel_rfl
theorem k22 : (Rows.fateKnownRow.plainKeys == Tryz.prog.plainKeys) = true := by kernel_rfl
theorem k23 : Rows.fateKnownRow.shortTexts.isNone = true := by kernel_rfl
theorem k26 : (Rows.fateKnownRow.lifted == Tryz.prog.liftsFinal) = true := by kernel_rfl
theorem k27 : (Tryz.prog.make == some Rows.fateKnownRow.make) = true := by kernel_rfl
theorem k28 : (Rows.fateKnownRow.kinds == (if Rows.fateKnownRow.domain.isEmpty then [] else Tryz.f4.params.toList.map fun t => match Tryz.prog.underlying t with | some (.int k) => some k | _ => none)) = true := by kernel_rfl
theorem k29 : (Rows.fateKnownRow.pinned == Rows.fateKnownRow.pinnedBy) = true := by kernel_rfl
theorem k30 : (Rows.fateKnownRow.veiled == (Tryz.f4.params.toList ++ Rows.fateKnownSpec.plain.varTypes Tryz.prog ++ Tryz.f4.resultTypes.toList).any (Tryz.prog.veiledRec ·)) = true := by kernel_rfl
theorem k31 : Rows.fateKnownRow.veiledFits Tryz.prog Tryz.f4.params.toList (Tryz.f4.params.toList ++ Rows.fateKnownSpec.plain.varTypes Tryz.prog ++ Tryz.f4.resultTypes.toList) = true := by kernel_rfl
theorem closed : joinedFacts Tryz.prog 4 Tryz.f4 Rows.fateKnownSpec Rows.fateKnownRow = true := kn.both (kn.both (kn.both (kn.both (kn.both (kn.both (kn.both (kn.both (kn.both (kn.both (kn.both (kn.both (kn.both (kn.both (kn.both (kn.both (kn.both (kn.both (kn.both (kn.both (kn.both (kn.both (kn.both (kn.both (kn.both (kn.both (kn.both (kn.both (kn.both (kn.both (kn.both (k0) kn.k1) kn.k2) k3) k4) k5) kn.k6) k7) kn.k8) k9) k10) k11) k12) k13) k14) k15) k16) k17) k18) k19) k20) k21) k22) k23) kn.k24) kn.k25) k26) k27) k28) k29) k30) k31
theorem nfn : Tryz.pinned.checked.prog.funcNamed Rows.fateKnownRow.func = some 4 := by kernel_rfl
theorem inst : Tryz.f4.isInstance Tryz.pinned.checked.prog Rows.fateKnownRow.origin Rows.fateKnownRow.targs := of_decide_eq_true (by kernel_rfl)
theorem wrap : Tryz.f4.isWrapper Tryz.pinned.checked.prog Rows.fateKnownRow.wrapper Rows.fateKnownRow.mainSum := by unfold Func.isWrapper; first | (rw [if_pos (by decide +kernel)]; kernel_rfl) | (rw [if_neg (by decide +kernel)]; exact ⟨rfl, rfl⟩)
end Go.Proofs.YthmccpflcpijnaaGreat.fateKnown
