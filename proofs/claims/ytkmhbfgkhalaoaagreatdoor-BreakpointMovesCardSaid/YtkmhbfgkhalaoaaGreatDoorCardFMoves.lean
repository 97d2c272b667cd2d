/- The closed facts of the card of BreakpointMoves. No condition. -/
import Derived.Test.YtkmhbfgkhalaoaaGreatDoorRows
import Derived.SevenTiedAt
namespace Go.Proofs.YtkmhbfgkhalaoaaGreatDoor
open Go
set_option maxRecDepth 100000
theorem breakpointMoves.q1 : Rows.breakpointMovesRow.wfByText (OpenSpec.ofChange Rows.breakpointMovesSpec) = true := by kernel_rfl
theorem breakpointMoves.q2 : Tryz.prog.mainIs = some (true, "1bba85e7493fec091f958a2d88c6c0f94e5596ecd3d2f9835dee83cc33a99313".toList) := by kernel_rfl
theorem breakpointMoves.q3 : Tryz.prog.funcNamed "debugger/debuggerlaw40.BreakpointMoves" = some 3 := by kernel_rfl
theorem breakpointMoves.q4 : true = Tryz.prog.looks [] := by kernel_rfl
theorem breakpointMoves.q5 : ([9, 9, 22, 22, 3].all fun u => !Tryz.prog.wantsStandIn u) = true := by kernel_rfl
end Go.Proofs.YtkmhbfgkhalaoaaGreatDoor
