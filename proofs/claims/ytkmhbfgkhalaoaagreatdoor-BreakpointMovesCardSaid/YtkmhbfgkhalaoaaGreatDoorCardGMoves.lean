/- One more closed fact of the card of BreakpointMoves. No condition. -/
import Derived.Test.YtkmhbfgkhalaoaaGreatDoorRows
import Derived.SevenTiedAt
namespace Go.Proofs.YtkmhbfgkhalaoaaGreatDoor
open Go
set_option maxRecDepth 100000
theorem breakpointMoves.q6 : false = Rows.breakpointMovesRow.goesBy Tryz.prog := by kernel_rfl
end Go.Proofs.YtkmhbfgkhalaoaaGreatDoor
