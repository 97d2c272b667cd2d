/- The closed facts of the row of BreakpointKeeps, one by one. No condition. -/
import Derived.Test.YtkmhbfgkhalaoaaGreatDoorRows
import Derived.JoinedOf
namespace Go.Proofs.YtkmhbfgkhalaoaaGreatDoor
open Go
set_option maxRecDepth 100000
theorem breakpointKeeps.k0 : (Rows.breakpointKeepsRow.wf (OpenSpec.ofChange Rows.breakpointKeepsSpec)) = true := by kernel_rfl
theorem breakpointKeeps.k1 : (laidOutB Tryz.prog) = true := by kernel_rfl
theorem breakpointKeeps.k2 : (mapsRowed Tryz.prog) = true := by kernel_rfl
theorem breakpointKeeps.k3 : (Tryz.f4.params.all (Tryz.prog.readableRec ·)) = true := by kernel_rfl
theorem breakpointKeeps.k4 : (namedTie Tryz.prog Rows.breakpointKeepsRow.named Rows.breakpointKeepsSpec.vars) = true := by kernel_rfl
theorem breakpointKeeps.k5 : ((Rows.breakpointKeepsRow.stops == [])) = true := by kernel_rfl
theorem breakpointKeeps.k6 : ((Tryz.prog.stops == [])) = true := by kernel_rfl
theorem breakpointKeeps.k7 : ((Rows.breakpointKeepsRow.knobs == [])) = true := by kernel_rfl
theorem breakpointKeeps.k8 : ((Tryz.prog.stopKnobs == [])) = true := by kernel_rfl
theorem breakpointKeeps.k9 : ((Rows.breakpointKeepsRow.inPlace == Tryz.prog.inPlace 4)) = true := by kernel_rfl
theorem breakpointKeeps.k10 : ((Rows.breakpointKeepsRow.unfollowed == Tryz.prog.unfollowed 4)) = true := by kernel_rfl
theorem breakpointKeeps.k11 : ((Rows.breakpointKeepsRow.recurses == Tryz.prog.recurses 4)) = true := by kernel_rfl
theorem breakpointKeeps.k12 : ((Rows.breakpointKeepsRow.named == Tryz.prog.varsNamed 4)) = true := by kernel_rfl
theorem breakpointKeeps.k13 : ((Rows.breakpointKeepsRow.maps == (Tryz.f4.params.toList ++ Rows.breakpointKeepsSpec.plain.varTypes Tryz.prog).any (Tryz.prog.mapsRec ·))) = true := by kernel_rfl
theorem breakpointKeeps.k14 : ((Rows.breakpointKeepsRow.ifaces == (Tryz.f4.params.toList ++ Rows.breakpointKeepsSpec.plain.varTypes Tryz.prog).any (Tryz.prog.ifacesRec ·))) = true := by kernel_rfl
theorem breakpointKeeps.k15 : ((Rows.breakpointKeepsRow.mapsOut == Tryz.prog.mapsAmong Tryz.f4.resultTypes.toList)) = true := by kernel_rfl
theorem breakpointKeeps.k16 : ((Rows.breakpointKeepsRow.loops == (Tryz.f4.params.toList ++ Rows.breakpointKeepsSpec.plain.varTypes Tryz.prog).any (Tryz.prog.loopsFrom ·))) = true := by kernel_rfl
theorem breakpointKeeps.k17 : ((Rows.breakpointKeepsRow.wideKeys == (Tryz.f4.params.toList ++ Rows.breakpointKeepsSpec.plain.varTypes Tryz.prog ++ Tryz.f4.resultTypes.toList).any (Tryz.prog.wideKeysFrom ·))) = true := by kernel_rfl
theorem breakpointKeeps.k18 : (Rows.breakpointKeepsSpec.vars.all (Tryz.prog.varReadable ·)) = true := by kernel_rfl
theorem breakpointKeeps.k19 : (Tryz.f4.resultTypes.all (fun t => Tryz.prog.readableRec t && decide (t < Tryz.prog.types.size))) = true := by kernel_rfl
theorem breakpointKeeps.k20 : ((Rows.breakpointKeepsRow.ifacesOut == Tryz.f4.resultTypes.toList.any (Tryz.prog.ifacesRec ·))) = true := by kernel_rfl
theorem breakpointKeeps.k21 : ((Rows.breakpointKeepsRow.loopsOut == Tryz.f4.resultTypes.toList.any (Tryz.prog.loopsFrom ·))) = true := by kernel_rfl
theorem breakpointKeeps.k22 : ((Rows.breakpointKeepsRow.plainKeys == Tryz.prog.plainKeys)) = true := by kernel_rfl
theorem breakpointKeeps.k23 : (Rows.breakpointKeepsRow.shortTexts.isNone) = true := by kernel_rfl
theorem breakpointKeeps.k24 : (Tryz.prog.stopsHeard) = true := by kernel_rfl
theorem breakpointKeeps.k25 : (Tryz.prog.mayEnter) = true := by kernel_rfl
theorem breakpointKeeps.k26 : ((Rows.breakpointKeepsRow.lifted == Tryz.prog.liftsFinal)) = true := by kernel_rfl
theorem breakpointKeeps.k27 : ((Tryz.prog.make == some Rows.breakpointKeepsRow.make)) = true := by kernel_rfl
theorem breakpointKeeps.k28 : ((Rows.breakpointKeepsRow.kinds == (if Rows.breakpointKeepsRow.domain.isEmpty then [] else Tryz.f4.params.toList.map fun t => match Tryz.prog.underlying t with | some (.int k) => some k | _ => none))) = true := by kernel_rfl
theorem breakpointKeeps.k29 : ((Rows.breakpointKeepsRow.pinned == Rows.breakpointKeepsRow.pinnedBy)) = true := by kernel_rfl
theorem breakpointKeeps.k30 : ((Rows.breakpointKeepsRow.veiled == (Tryz.f4.params.toList ++ Rows.breakpointKeepsSpec.plain.varTypes Tryz.prog ++ Tryz.f4.resultTypes.toList).any (Tryz.prog.veiledRec ·))) = true := by kernel_rfl
theorem breakpointKeeps.k31 : (Rows.breakpointKeepsRow.veiledFits Tryz.prog Tryz.f4.params.toList (Tryz.f4.params.toList ++ Rows.breakpointKeepsSpec.plain.varTypes Tryz.prog ++ Tryz.f4.resultTypes.toList)) = true := by kernel_rfl
end Go.Proofs.YtkmhbfgkhalaoaaGreatDoor
