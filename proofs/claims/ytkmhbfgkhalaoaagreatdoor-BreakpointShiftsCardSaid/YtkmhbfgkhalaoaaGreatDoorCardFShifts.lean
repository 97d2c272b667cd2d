/- The closed facts of the card of BreakpointShifts. No condition. -/
import Derived.Test.YtkmhbfgkhalaoaaGreatDoorRows
import Derived.SevenTiedAt
namespace Go.Proofs.YtkmhbfgkhalaoaaGreatDoor
open Go
set_option maxRecDepth 100000
theorem breakpointShifts.q1 : Rows.breakpointShiftsRow.wfByText (OpenSpec.ofChange Rows.breakpointShiftsSpec) = true := by kernel_rfl
theorem breakpointShifts.q2 : Tryz.prog.mainIs = some (true, "1bba85e7493fec091f958a2d88c6c0f94e5596ecd3d2f9835dee83cc33a99313".toList) := by kernel_rfl
theorem breakpointShifts.q3 : Tryz.prog.funcNamed "debugger/debuggerlaw40.BreakpointShifts" = some 5 := by kernel_rfl
theorem breakpointShifts.q4 : true = Tryz.prog.looks [] := by kernel_rfl
theorem breakpointShifts.q5 : ([22, 3, 3, 3].all fun u => !Tryz.prog.wantsStandIn u) = true := by kernel_rfl
end Go.Proofs.YtkmhbfgkhalaoaaGreatDoor
