/- One more closed fact of the card of BreakpointShifts. No condition. -/
import Derived.Test.YtkmhbfgkhalaoaaGreatDoorRows
import Derived.SevenTiedAt
namespace Go.Proofs.YtkmhbfgkhalaoaaGreatDoor
open Go
set_option maxRecDepth 100000
theorem breakpointShifts.q6 : false = Rows.breakpointShiftsRow.goesBy Tryz.prog := by kernel_rfl
end Go.Proofs.YtkmhbfgkhalaoaaGreatDoor
