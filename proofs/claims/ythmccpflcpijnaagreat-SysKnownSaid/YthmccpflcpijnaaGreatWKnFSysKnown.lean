/- SysKnown: what the row asks of the program, piece by piece. -/
import Derived.Test.YthmccpflcpijnaaGreatWKnFacts
namespace Go.Proofs.YthmccpflcpijnaaGreat.sysKnown
open Go Go.ChangeShapes Go.WideShapes Go.ChangeAt Go.RowKit
set_option maxRecDepth 100000
theorem k0 : (Rows.sysKnownRow).wf (OpenSpec.ofChange Rows.sysKnownSpec) = true := by kernel_rfl
theorem k3 : Tryz.f3.params.all (Tryz.prog.readableRec ·) = true := by kernel_rfl
theorem k4 : namedTie Tryz.prog Rows.sysKnownRow.named Rows.sysKnownSpec.vars = true := by kernel_rfl
theorem k5 : (Rows.sysKnownRow.stops == []) = true := by kernel_rfl
theorem k7 : (Rows.sysKnownRow.knobs == []) = true := by kernel_rfl
theorem k9 : (Rows.sysKnownRow.inPlace == Tryz.prog.inPlace 3) = true := by kernel_rfl
theorem k10 : (Rows.sysKnownRow.unfollowed == Tryz.prog.unfollowed 3) = true := by kernel_rfl
theorem k11 : (Rows.sysKnownRow.recurses == Tryz.prog.recurses 3) = true := by kernel_rfl
theorem k12 : (Rows.sysKnownRow.named == Tryz.prog.varsNamed 3) = true := by kernel_rfl
theorem k13 : (Rows.sysKnownRow.maps == (Tryz.f3.params.toList ++ Rows.sysKnownSpec.plain.varTypes Tryz.prog).any (Tryz.prog.mapsRec ·)) = true := by kernel_rfl
theorem k14 : (Rows.sysKnownRow.ifaces == (Tryz.f3.params.toList ++ Rows.sysKnownSpec.plain.varTypes Tryz.prog).any (Tryz.prog.ifacesRec ·)) = true := by kernel_rfl
theorem k15 : (Rows.sysKnownRow.mapsOut == Tryz.prog.mapsAmong Tryz.f3.resultTypes.toList) = true := by kernel_rfl
theorem k16 : (Rows.sysKnownRow.loops == (Tryz.f3.params.toList ++ Rows.sysKnownSpec.plain.varTypes Tryz.prog).any (Tryz.prog.loopsFrom ·)) = true := by kernel_rfl
theorem k17 : (Rows.sysKnownRow.wideKeys == (Tryz.f3.params.toList ++ Rows.sysKnownSpec.plain.varTypes Tryz.prog ++ Tryz.f3.resultTypes.toList).any (Tryz.prog.wideKeysFrom ·)) = true := by kernel_rfl
theorem k18 : Rows.sysKnownSpec.vars.all (Tryz.prog.varReadable ·) = true := by kernel_rfl
theorem k19 : Tryz.f3.resultTypes.all (fun t => Tryz.prog.readableRec t && decide (t < Tryz.prog.types.size)) = true := by kernel_rfl
theorem k20 : (Rows.sysKnownRow.ifacesOut == Tryz.f3.resultTypes.toList.any (Tryz.prog.ifacesRec ·)) = true := by kernel_rfl
theorem k21 : (Rows.sysKnownRow.loopsOut == Tryz.f3.resultTypes.toList.any (Tryz.prog.loopsFrom ·)) = true := by kernel_rfl
theorem k22 : (Rows.sysKnownRow.plainKeys == Tryz.prog.plainKeys) = true := by kernel_rfl
theorem k23 : Rows.sysKnownRow.shortTexts.isNone = true := by kernel_rfl
theorem k26 : (Rows.sysKnownRow.lifted == Tryz.prog.liftsFinal) = true := by kernel_rfl
theorem k27 : (Tryz.prog.make == some Rows.sysKnownRow.make) = true := by kernel_rfl
theorem k28 : (Rows.sysKnownRow.kinds == (if Rows.sysKnownRow.domain.isEmpty then [] else Tryz.f3.params.toList.map fun t => match Tryz.prog.underlying t with | some (.int k) => some k | _ => none)) = true := by kernel_rfl
theorem k29 : (Rows.sysKnownRow.pinned == Rows.sysKnownRow.pinnedBy) = true := by kernel_rfl
theorem k30 : (Rows.sysKnownRow.veiled == (Tryz.f3.params.toList ++ Rows.sysKnownSpec.plain.varTypes Tryz.prog ++ Tryz.f3.resultTypes.toList).any (Tryz.prog.veiledRec ·)) = true := by kernel_rfl
theorem k31 : Rows.sysKnownRow.veiledFits Tryz.prog Tryz.f3.params.toList (Tryz.f3.params.toList ++ Rows.sysKnownSpec.plain.varTypes Tryz.prog ++ Tryz.f3.resultTypes.toList) = true := by kernel_rfl
theorem closed : joinedFacts Tryz.prog 3 Tryz.f3 Rows.sysKnownSpec Rows.sysKnownRow = true := kn.both (kn.both (kn.both (kn.both (kn.both (kn.both (kn.both (kn.both (kn.both (kn.both (kn.both (kn.both (kn.both (kn.both (kn.both (kn.both (kn.both (kn.both (kn.both (kn.both (kn.both (kn.both (kn.both (kn.both (kn.both (kn.both (kn.both (kn.both (kn.both (kn.both (kn.both (k0) kn.k1) kn.k2) k3) k4) k5) kn.k6) k7) kn.k8) k9) k10) k11) k12) k13) k14) k15) k16) k17) k18) k19) k20) k21) k22) k23) kn.k24) kn.k25) k26) k27) k28) k29) k30) k31
theorem nfn : Tryz.pinned.checked.prog.funcNamed Rows.sysKnownRow.func = some 3 := by kernel_rfl
theorem inst : Tryz.f3.isInstance Tryz.pinned.checked.prog Rows.sysKnownRow.origin Rows.sysKnownRow.targs := of_decide_eq_true (by kernel_rfl)
theorem wrap : Tryz.f3.isWrapper Tryz.pinned.checked.prog Rows.sysKnownRow.wrapper Rows.sysKnownRow.mainSum := by unfold Func.isWrapper; first | (rw [if_pos (by decide +kernel)]; kernel_rfl) | (rw [if_neg (by decide +kernel)]; exact ⟨rfl, rfl⟩)
end Go.Proofs.YthmccpflcpijnaaGreat.sysKnown
