/- The closed facts of the card of BreakpointKeeps. No condition. -/
import Derived.Test.YtkmhbfgkhalaoaaGreatDoorRows
import Derived.SevenTiedAt
namespace Go.Proofs.YtkmhbfgkhalaoaaGreatDoor
open Go
set_option maxRecDepth 100000
theorem breakpointKeeps.q1 : Rows.breakpointKeepsRow.wfByText (OpenSpec.ofChange Rows.breakpointKeepsSpec) = true := by kernel_rfl
theorem breakpointKeeps.q2 : Tryz.prog.mainIs = some (true, "1bba85e7493fec091f958a2d88c6c0f94e5596ecd3d2f9835dee83cc33a99313".toList) := by kernel_rfl
theorem breakpointKeeps.q3 : Tryz.prog.funcNamed "debugger/debuggerlaw40.BreakpointKeeps" = some 4 := by kernel_rfl
theorem breakpointKeeps.q4 : true = Tryz.prog.looks [] := by kernel_rfl
theorem breakpointKeeps.q5 : ([22, 22].all fun u => !Tryz.prog.wantsStandIn u) = true := by kernel_rfl
end Go.Proofs.YtkmhbfgkhalaoaaGreatDoor
