/- The closed facts of the row of BreakpointCounts, one by one. No condition. -/
import Derived.Test.YtkmhbfgkhalaoaaGreatDoorRows
import Derived.JoinedOf
namespace Go.Proofs.YtkmhbfgkhalaoaaGreatDoor
open Go
set_option maxRecDepth 100000
theorem k0 : (Rows.breakpointCountsRow.wf (OpenSpec.ofChange Rows.breakpointCountsSpec)) = true := by kernel_rfl
theorem k1 : (laidOutB Tryz.prog) = true := by kernel_rfl
theorem k2 : (mapsRowed Tryz.prog) = true := by kernel_rfl
theorem k3 : (Tryz.f7.params.all (Tryz.prog.readableRec ·)) = true := by kernel_rfl
theorem k4 : (namedTie Tryz.prog Rows.breakpointCountsRow.named Rows.breakpointCountsSpec.vars) = true := by kernel_rfl
theorem k5 : ((Rows.breakpointCountsRow.stops == [])) = true := by kernel_rfl
theorem k6 : ((Tryz.prog.stops == [])) = true := by kernel_rfl
theorem k7 : ((Rows.breakpointCountsRow.knobs == [])) = true := by kernel_rfl
theorem k8 : ((Tryz.prog.stopKnobs == [])) = true := by kernel_rfl
theorem k9 : ((Rows.breakpointCountsRow.inPlace == Tryz.prog.inPlace 7)) = true := by kernel_rfl
theorem k10 : ((Rows.breakpointCountsRow.unfollowed == Tryz.prog.unfollowed 7)) = true := by kernel_rfl
theorem k11 : ((Rows.breakpointCountsRow.recurses == Tryz.prog.recurses 7)) = true := by kernel_rfl
theorem k12 : ((Rows.breakpointCountsRow.named == Tryz.prog.varsNamed 7)) = true := by kernel_rfl
theorem k13 : ((Rows.breakpointCountsRow.maps == (Tryz.f7.params.toList ++ Rows.breakpointCountsSpec.plain.varTypes Tryz.prog).any (Tryz.prog.mapsRec ·))) = true := by kernel_rfl
theorem k14 : ((Rows.breakpointCountsRow.ifaces == (Tryz.f7.params.toList ++ Rows.breakpointCountsSpec.plain.varTypes Tryz.prog).any (Tryz.prog.ifacesRec ·))) = true := by kernel_rfl
theorem k15 : ((Rows.breakpointCountsRow.mapsOut == Tryz.prog.mapsAmong Tryz.f7.resultTypes.toList)) = true := by kernel_rfl
theorem k16 : ((Rows.breakpointCountsRow.loops == (Tryz.f7.params.toList ++ Rows.breakpointCountsSpec.plain.varTypes Tryz.prog).any (Tryz.prog.loopsFrom ·))) = true := by kernel_rfl
theorem k17 : ((Rows.breakpointCountsRow.wideKeys == (Tryz.f7.params.toList ++ Rows.breakpointCountsSpec.plain.varTypes Tryz.prog ++ Tryz.f7.resultTypes.toList).any (Tryz.prog.wideKeysFrom ·))) = true := by kernel_rfl
theorem k18 : (Rows.breakpointCountsSpec.vars.all (Tryz.prog.varReadable ·)) = true := by kernel_rfl
theorem k19 : (Tryz.f7.resultTypes.all (fun t => Tryz.prog.readableRec t && decide (t < Tryz.prog.types.size))) = true := by kernel_rfl
theorem k20 : ((Rows.breakpointCountsRow.ifacesOut == Tryz.f7.resultTypes.toList.any (Tryz.prog.ifacesRec ·))) = true := by kernel_rfl
theorem k21 : ((Rows.breakpointCountsRow.loopsOut == Tryz.f7.resultTypes.toList.any (Tryz.prog.loopsFrom ·))) = true := by kernel_rfl
theorem k22 : ((Rows.breakpointCountsRow.plainKeys == Tryz.prog.plainKeys)) = true := by kernel_rfl
theorem k23 : (Rows.breakpointCountsRow.shortTexts.isNone) = true := by kernel_rfl
theorem k24 : (Tryz.prog.stopsHeard) = true := by kernel_rfl
theorem k25 : (Tryz.prog.mayEnter) = true := by kernel_rfl
theorem k26 : ((Rows.breakpointCountsRow.lifted == Tryz.prog.liftsFinal)) = true := by kernel_rfl
theorem k27 : ((Tryz.prog.make == some Rows.breakpointCountsRow.make)) = true := by kernel_rfl
theorem k28 : ((Rows.breakpointCountsRow.kinds == (if Rows.breakpointCountsRow.domain.isEmpty then [] else Tryz.f7.params.toList.map fun t => match Tryz.prog.underlying t with | some (.int k) => some k | _ => none))) = true := by kernel_rfl
theorem k29 : ((Rows.breakpointCountsRow.pinned == Rows.breakpointCountsRow.pinnedBy)) = true := by kernel_rfl
theorem k30 : ((Rows.breakpointCountsRow.veiled == (Tryz.f7.params.toList ++ Rows.breakpointCountsSpec.plain.varTypes Tryz.prog ++ Tryz.f7.resultTypes.toList).any (Tryz.prog.veiledRec ·))) = true := by kernel_rfl
theorem k31 : (Rows.breakpointCountsRow.veiledFits Tryz.prog Tryz.f7.params.toList (Tryz.f7.params.toList ++ Rows.breakpointCountsSpec.plain.varTypes Tryz.prog ++ Tryz.f7.resultTypes.toList)) = true := by kernel_rfl
end Go.Proofs.YtkmhbfgkhalaoaaGreatDoor
