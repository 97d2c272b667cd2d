/- The closed facts of the row of BreakpointMoves, one by one. No condition. -/
import Derived.Test.YtkmhbfgkhalaoaaGreatDoorRows
import Derived.JoinedOf
namespace Go.Proofs.YtkmhbfgkhalaoaaGreatDoor
open Go
set_option maxRecDepth 100000
theorem breakpointMoves.k0 : (Rows.breakpointMovesRow.wf (OpenSpec.ofChange Rows.breakpointMovesSpec)) = true := by kernel_rfl
theorem breakpointMoves.k1 : (laidOutB Tryz.prog) = true := by kernel_rfl
theorem breakpointMoves.k2 : (mapsRowed Tryz.prog) = true := by kernel_rfl
theorem breakpointMoves.k3 : (Tryz.f3.params.all (Tryz.prog.readableRec ·)) = true := by kernel_rfl
theorem breakpointMoves.k4 : (namedTie Tryz.prog Rows.breakpointMovesRow.named Rows.breakpointMovesSpec.vars) = true := by kernel_rfl
theorem breakpointMoves.k5 : ((Rows.breakpointMovesRow.stops == [])) = true := by kernel_rfl
theorem breakpointMoves.k6 : ((Tryz.prog.stops == [])) = true := by kernel_rfl
theorem breakpointMoves.k7 : ((Rows.breakpointMovesRow.knobs == [])) = true := by kernel_rfl
theorem breakpointMoves.k8 : ((Tryz.prog.stopKnobs == [])) = true := by kernel_rfl
theorem breakpointMoves.k9 : ((Rows.breakpointMovesRow.inPlace == Tryz.prog.inPlace 3)) = true := by kernel_rfl
theorem breakpointMoves.k10 : ((Rows.breakpointMovesRow.unfollowed == Tryz.prog.unfollowed 3)) = true := by kernel_rfl
theorem breakpointMoves.k11 : ((Rows.breakpointMovesRow.recurses == Tryz.prog.recurses 3)) = true := by kernel_rfl
theorem breakpointMoves.k12 : ((Rows.breakpointMovesRow.named == Tryz.prog.varsNamed 3)) = true := by kernel_rfl
theorem breakpointMoves.k13 : ((Rows.breakpointMovesRow.maps == (Tryz.f3.params.toList ++ Rows.breakpointMovesSpec.plain.varTypes Tryz.prog).any (Tryz.prog.mapsRec ·))) = true := by kernel_rfl
theorem breakpointMoves.k14 : ((Rows.breakpointMovesRow.ifaces == (Tryz.f3.params.toList ++ Rows.breakpointMovesSpec.plain.varTypes Tryz.prog).any (Tryz.prog.ifacesRec ·))) = true := by kernel_rfl
theorem breakpointMoves.k15 : ((Rows.breakpointMovesRow.mapsOut == Tryz.prog.mapsAmong Tryz.f3.resultTypes.toList)) = true := by kernel_rfl
theorem breakpointMoves.k16 : ((Rows.breakpointMovesRow.loops == (Tryz.f3.params.toList ++ Rows.breakpointMovesSpec.plain.varTypes Tryz.prog).any (Tryz.prog.loopsFrom ·))) = true := by kernel_rfl
theorem breakpointMoves.k17 : ((Rows.breakpointMovesRow.wideKeys == (Tryz.f3.params.toList ++ Rows.breakpointMovesSpec.plain.varTypes Tryz.prog ++ Tryz.f3.resultTypes.toList).any (Tryz.prog.wideKeysFrom ·))) = true := by kernel_rfl
theorem breakpointMoves.k18 : (Rows.breakpointMovesSpec.vars.all (Tryz.prog.varReadable ·)) = true := by kernel_rfl
theorem breakpointMoves.k19 : (Tryz.f3.resultTypes.all (fun t => Tryz.prog.readableRec t && decide (t < Tryz.prog.types.size))) = true := by kernel_rfl
theorem breakpointMoves.k20 : ((Rows.breakpointMovesRow.ifacesOut == Tryz.f3.resultTypes.toList.any (Tryz.prog.ifacesRec ·))) = true := by kernel_rfl
theorem breakpointMoves.k21 : ((Rows.breakpointMovesRow.loopsOut == Tryz.f3.resultTypes.toList.any (Tryz.prog.loopsFrom ·))) = true := by kernel_rfl
theorem breakpointMoves.k22 : ((Rows.breakpointMovesRow.plainKeys == Tryz.prog.plainKeys)) = true := by kernel_rfl
theorem breakpointMoves.k23 : (Rows.breakpointMovesRow.shortTexts.isNone) = true := by kernel_rfl
theorem breakpointMoves.k24 : (Tryz.prog.stopsHeard) = true := by kernel_rfl
theorem breakpointMoves.k25 : (Tryz.prog.mayEnter) = true := by kernel_rfl
theorem breakpointMoves.k26 : ((Rows.breakpointMovesRow.lifted == Tryz.prog.liftsFinal)) = true := by kernel_rfl
theorem breakpointMoves.k27 : ((Tryz.prog.make == some Rows.breakpointMovesRow.make)) = true := by kernel_rfl
theorem breakpointMoves.k28 : ((Rows.breakpointMovesRow.kinds == (if Rows.breakpointMovesRow.domain.isEmpty then [] else Tryz.f3.params.toList.map fun t => match Tryz.prog.underlying t with | some (.int k) => some k | _ => none))) = true := by kernel_rfl
theorem breakpointMoves.k29 : ((Rows.breakpointMovesRow.pinned == Rows.breakpointMovesRow.pinnedBy)) = true := by kernel_rfl
theorem breakpointMoves.k30 : ((Rows.breakpointMovesRow.veiled == (Tryz.f3.params.toList ++ Rows.breakpointMovesSpec.plain.varTypes Tryz.prog ++ Tryz.f3.resultTypes.toList).any (Tryz.prog.veiledRec ·))) = true := by kernel_rfl
theorem breakpointMoves.k31 : (Rows.breakpointMovesRow.veiledFits Tryz.prog Tryz.f3.params.toList (Tryz.f3.params.toList ++ Rows.breakpointMovesSpec.plain.varTypes Tryz.prog ++ Tryz.f3.resultTypes.toList)) = true := by kernel_rfl
end Go.Proofs.YtkmhbfgkhalaoaaGreatDoor
