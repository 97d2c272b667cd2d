/- The closed facts of the row of BreakpointShifts, one by one. No condition. -/
import Derived.Test.YtkmhbfgkhalaoaaGreatDoorRows
import Derived.JoinedOf
namespace Go.Proofs.YtkmhbfgkhalaoaaGreatDoor
open Go
set_option maxRecDepth 100000
theorem breakpointShifts.k0 : (Rows.breakpointShiftsRow.wf (OpenSpec.ofChange Rows.breakpointShiftsSpec)) = true := by kernel_rfl
theorem breakpointShifts.k1 : (laidOutB Tryz.prog) = true := by kernel_rfl
theorem breakpointShifts.k2 : (mapsRowed Tryz.prog) = true := by kernel_rfl
theorem breakpointShifts.k3 : (Tryz.f5.params.all (Tryz.prog.readableRec ·)) = true := by kernel_rfl
theorem breakpointShifts.k4 : (namedTie Tryz.prog Rows.breakpointShiftsRow.named Rows.breakpointShiftsSpec.vars) = true := by kernel_rfl
theorem breakpointShifts.k5 : ((Rows.breakpointShiftsRow.stops == [])) = true := by kernel_rfl
theorem breakpointShifts.k6 : ((Tryz.prog.stops == [])) = true := by kernel_rfl
theorem breakpointShifts.k7 : ((Rows.breakpointShiftsRow.knobs == [])) = true := by kernel_rfl
theorem breakpointShifts.k8 : ((Tryz.prog.stopKnobs == [])) = true := by kernel_rfl
theorem breakpointShifts.k9 : ((Rows.breakpointShiftsRow.inPlace == Tryz.prog.inPlace 5)) = true := by kernel_rfl
theorem breakpointShifts.k10 : ((Rows.breakpointShiftsRow.unfollowed == Tryz.prog.unfollowed 5)) = true := by kernel_rfl
theorem breakpointShifts.k11 : ((Rows.breakpointShiftsRow.recurses == Tryz.prog.recurses 5)) = true := by kernel_rfl
theorem breakpointShifts.k12 : ((Rows.breakpointShiftsRow.named == Tryz.prog.varsNamed 5)) = true := by kernel_rfl
theorem breakpointShifts.k13 : ((Rows.breakpointShiftsRow.maps == (Tryz.f5.params.toList ++ Rows.breakpointShiftsSpec.plain.varTypes Tryz.prog).any (Tryz.prog.mapsRec ·))) = true := by kernel_rfl
theorem breakpointShifts.k14 : ((Rows.breakpointShiftsRow.ifaces == (Tryz.f5.params.toList ++ Rows.breakpointShiftsSpec.plain.varTypes Tryz.prog).any (Tryz.prog.ifacesRec ·))) = true := by kernel_rfl
theorem breakpointShifts.k15 : ((Rows.breakpointShiftsRow.mapsOut == Tryz.prog.mapsAmong Tryz.f5.resultTypes.toList)) = true := by kernel_rfl
theorem breakpointShifts.k16 : ((Rows.breakpointShiftsRow.loops == (Tryz.f5.params.toList ++ Rows.breakpointShiftsSpec.plain.varTypes Tryz.prog).any (Tryz.prog.loopsFrom ·))) = true := by kernel_rfl
theorem breakpointShifts.k17 : ((Rows.breakpointShiftsRow.wideKeys == (Tryz.f5.params.toList ++ Rows.breakpointShiftsSpec.plain.varTypes Tryz.prog ++ Tryz.f5.resultTypes.toList).any (Tryz.prog.wideKeysFrom ·))) = true := by kernel_rfl
theorem breakpointShifts.k18 : (Rows.breakpointShiftsSpec.vars.all (Tryz.prog.varReadable ·)) = true := by kernel_rfl
theorem breakpointShifts.k19 : (Tryz.f5.resultTypes.all (fun t => Tryz.prog.readableRec t && decide (t < Tryz.prog.types.size))) = true := by kernel_rfl
theorem breakpointShifts.k20 : ((Rows.breakpointShiftsRow.ifacesOut == Tryz.f5.resultTypes.toList.any (Tryz.prog.ifacesRec ·))) = true := by kernel_rfl
theorem breakpointShifts.k21 : ((Rows.breakpointShiftsRow.loopsOut == Tryz.f5.resultTypes.toList.any (Tryz.prog.loopsFrom ·))) = true := by kernel_rfl
theorem breakpointShifts.k22 : ((Rows.breakpointShiftsRow.plainKeys == Tryz.prog.plainKeys)) = true := by kernel_rfl
theorem breakpointShifts.k23 : (Rows.breakpointShiftsRow.shortTexts.isNone) = true := by kernel_rfl
theorem breakpointShifts.k24 : (Tryz.prog.stopsHeard) = true := by kernel_rfl
theorem breakpointShifts.k25 : (Tryz.prog.mayEnter) = true := by kernel_rfl
theorem breakpointShifts.k26 : ((Rows.breakpointShiftsRow.lifted == Tryz.prog.liftsFinal)) = true := by kernel_rfl
theorem breakpointShifts.k27 : ((Tryz.prog.make == some Rows.breakpointShiftsRow.make)) = true := by kernel_rfl
theorem breakpointShifts.k28 : ((Rows.breakpointShiftsRow.kinds == (if Rows.breakpointShiftsRow.domain.isEmpty then [] else Tryz.f5.params.toList.map fun t => match Tryz.prog.underlying t with | some (.int k) => some k | _ => none))) = true := by kernel_rfl
theorem breakpointShifts.k29 : ((Rows.breakpointShiftsRow.pinned == Rows.breakpointShiftsRow.pinnedBy)) = true := by kernel_rfl
theorem breakpointShifts.k30 : ((Rows.breakpointShiftsRow.veiled == (Tryz.f5.params.toList ++ Rows.breakpointShiftsSpec.plain.varTypes Tryz.prog ++ Tryz.f5.resultTypes.toList).any (Tryz.prog.veiledRec ·))) = true := by kernel_rfl
theorem breakpointShifts.k31 : (Rows.breakpointShiftsRow.veiledFits Tryz.prog Tryz.f5.params.toList (Tryz.f5.params.toList ++ Rows.breakpointShiftsSpec.plain.varTypes Tryz.prog ++ Tryz.f5.resultTypes.toList)) = true := by kernel_rfl
end Go.Proofs.YtkmhbfgkhalaoaaGreatDoor
