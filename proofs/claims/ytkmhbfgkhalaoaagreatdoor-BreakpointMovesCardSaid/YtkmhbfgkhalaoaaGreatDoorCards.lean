/-
  DERIVED. GIVEN WITH THE SEED: THE CARDS: each row of YtkmhbfgkhalaoaaGreatDoorRows.lean that lists a variable, with what it lists TIED to the program's text (the seventh form; the later family's looks); each row that meets fmt, with fmt's text TOLD by the authors' own Lean function (tested against real Go, not proved from fmt's source: count such statements apart). THE CARD IS WHAT COUNTS. Prove the row's statement (the work); the ties are given (YtkmhbfgkhalaoaaGreatDoorTie.lean); close each card by the builder's one call (the guide's Derived/Test/ToyasCard.lean, 'card_holds'). Laid BY PROGRAM, IN A SANDBOX (cutbox-door.mjs). By AI agents, Wed Nov 11 2026. No macro, syntax, notation, axiom, sorry.
-/
import Derived.Test.YtkmhbfgkhalaoaaGreatDoorRows
import GoSem.ClaimSeven
namespace Go.Proofs.YtkmhbfgkhalaoaaGreatDoor
namespace Rows

/-- THE TIED CARD OF 'debuggerlaw40.BreakpointMoves'. -/
def breakpointMovesCard : Claim7 := { stood := { row := breakpointMovesRow, standIns := [], harness := (true, "1bba85e7493fec091f958a2d88c6c0f94e5596ecd3d2f9835dee83cc33a99313"), looks := true }, kinds := [], alts := [], laidByText := true, laidKinds := [.data, .data, .data, .data, .sentinel, .sentinel, .pinned], laidTests := true, laidLooks := .later }
def BreakpointMovesCardSaid : Prop := Claim7.holds Tryz.pinned (.plain (OpenSpec.ofChange breakpointMovesSpec)) breakpointMovesCard

/-- THE TIED CARD OF 'debuggerlaw40.BreakpointKeeps'. -/
def breakpointKeepsCard : Claim7 := { stood := { row := breakpointKeepsRow, standIns := [], harness := (true, "1bba85e7493fec091f958a2d88c6c0f94e5596ecd3d2f9835dee83cc33a99313"), looks := true }, kinds := [], alts := [], laidByText := true, laidKinds := [.data, .data, .data, .data, .sentinel, .sentinel, .pinned], laidTests := true, laidLooks := .later }
def BreakpointKeepsCardSaid : Prop := Claim7.holds Tryz.pinned (.plain (OpenSpec.ofChange breakpointKeepsSpec)) breakpointKeepsCard

/-- THE TIED CARD OF 'debuggerlaw40.BreakpointShifts'. -/
def breakpointShiftsCard : Claim7 := { stood := { row := breakpointShiftsRow, standIns := [], harness := (true, "1bba85e7493fec091f958a2d88c6c0f94e5596ecd3d2f9835dee83cc33a99313"), looks := true }, kinds := [], alts := [], laidByText := true, laidKinds := [.data, .data, .data, .data, .sentinel, .sentinel, .pinned], laidTests := true, laidLooks := .later }
def BreakpointShiftsCardSaid : Prop := Claim7.holds Tryz.pinned (.plain (OpenSpec.ofChange breakpointShiftsSpec)) breakpointShiftsCard

/-- THE TIED CARD OF 'debuggerlaw40.BreakpointHits'. -/
def breakpointHitsCard : Claim7 := { stood := { row := breakpointHitsRow, standIns := [], harness := (true, "1bba85e7493fec091f958a2d88c6c0f94e5596ecd3d2f9835dee83cc33a99313"), looks := true }, kinds := [], alts := [], laidByText := true, laidKinds := [.data, .data, .data, .data, .sentinel, .sentinel, .pinned], laidTests := true, laidLooks := .later }
def BreakpointHitsCardSaid : Prop := Claim7.holds Tryz.pinned (.plain (OpenSpec.ofChange breakpointHitsSpec)) breakpointHitsCard

/-- THE TIED CARD OF 'debuggerlaw40.BreakpointCounts'. -/
def breakpointCountsCard : Claim7 := { stood := { row := breakpointCountsRow, standIns := [], harness := (true, "1bba85e7493fec091f958a2d88c6c0f94e5596ecd3d2f9835dee83cc33a99313"), looks := true }, kinds := [], alts := [], laidByText := true, laidKinds := [.data, .data, .data, .data, .sentinel, .sentinel, .pinned], laidTests := true, laidLooks := .later }
def BreakpointCountsCardSaid : Prop := Claim7.holds Tryz.pinned (.plain (OpenSpec.ofChange breakpointCountsSpec)) breakpointCountsCard

/-- THE SECOND FORM's CARD OF 'debuggerlaw40.BreakpointMoves'. -/
def breakpointMovesUptoCard : Claim7 := { stood := { row := breakpointMovesUptoRow, standIns := [], harness := (true, "1bba85e7493fec091f958a2d88c6c0f94e5596ecd3d2f9835dee83cc33a99313"), looks := true }, kinds := [], alts := [], laidByText := true, laidKinds := [.data, .data, .data, .data, .sentinel, .sentinel, .pinned], laidTests := true, laidLooks := .later }
def BreakpointMovesUptoCardSaid : Prop := Claim7.holds Tryz.pinned (.plain (OpenSpec.upto breakpointMovesSpec)) breakpointMovesUptoCard

/-- THE SECOND FORM's CARD OF 'debuggerlaw40.BreakpointKeeps'. -/
def breakpointKeepsUptoCard : Claim7 := { stood := { row := breakpointKeepsUptoRow, standIns := [], harness := (true, "1bba85e7493fec091f958a2d88c6c0f94e5596ecd3d2f9835dee83cc33a99313"), looks := true }, kinds := [], alts := [], laidByText := true, laidKinds := [.data, .data, .data, .data, .sentinel, .sentinel, .pinned], laidTests := true, laidLooks := .later }
def BreakpointKeepsUptoCardSaid : Prop := Claim7.holds Tryz.pinned (.plain (OpenSpec.upto breakpointKeepsSpec)) breakpointKeepsUptoCard

/-- THE SECOND FORM's CARD OF 'debuggerlaw40.BreakpointShifts'. -/
def breakpointShiftsUptoCard : Claim7 := { stood := { row := breakpointShiftsUptoRow, standIns := [], harness := (true, "1bba85e7493fec091f958a2d88c6c0f94e5596ecd3d2f9835dee83cc33a99313"), looks := true }, kinds := [], alts := [], laidByText := true, laidKinds := [.data, .data, .data, .data, .sentinel, .sentinel, .pinned], laidTests := true, laidLooks := .later }
def BreakpointShiftsUptoCardSaid : Prop := Claim7.holds Tryz.pinned (.plain (OpenSpec.upto breakpointShiftsSpec)) breakpointShiftsUptoCard

/-- THE SECOND FORM's CARD OF 'debuggerlaw40.BreakpointHits'. -/
def breakpointHitsUptoCard : Claim7 := { stood := { row := breakpointHitsUptoRow, standIns := [], harness := (true, "1bba85e7493fec091f958a2d88c6c0f94e5596ecd3d2f9835dee83cc33a99313"), looks := true }, kinds := [], alts := [], laidByText := true, laidKinds := [.data, .data, .data, .data, .sentinel, .sentinel, .pinned], laidTests := true, laidLooks := .later }
def BreakpointHitsUptoCardSaid : Prop := Claim7.holds Tryz.pinned (.plain (OpenSpec.upto breakpointHitsSpec)) breakpointHitsUptoCard

/-- THE SECOND FORM's CARD OF 'debuggerlaw40.BreakpointCounts'. -/
def breakpointCountsUptoCard : Claim7 := { stood := { row := breakpointCountsUptoRow, standIns := [], harness := (true, "1bba85e7493fec091f958a2d88c6c0f94e5596ecd3d2f9835dee83cc33a99313"), looks := true }, kinds := [], alts := [], laidByText := true, laidKinds := [.data, .data, .data, .data, .sentinel, .sentinel, .pinned], laidTests := true, laidLooks := .later }
def BreakpointCountsUptoCardSaid : Prop := Claim7.holds Tryz.pinned (.plain (OpenSpec.upto breakpointCountsSpec)) breakpointCountsUptoCard
end Rows
end Go.Proofs.YtkmhbfgkhalaoaaGreatDoor
