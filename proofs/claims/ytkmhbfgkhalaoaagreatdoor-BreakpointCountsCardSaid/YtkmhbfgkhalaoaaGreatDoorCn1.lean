/- BreakpointCounts: its code's parts; the state at the head of its loop. -/
import Derived.Test.YtkmhbfgkhalaoaaGreatDoorLm31
import Derived.Test.YtkmhbfgkhalaoaaGreatDoorProg
import Derived.KernelRfl
set_option linter.unusedVariables false
namespace Go.Proofs.YtkmhbfgkhalaoaaGreatDoor.LM
open Go Go.RowKit
def cL : Code → Code | .seq a _ => a | c => c
def cR : Code → Code | .seq _ b => b | c => c
def cB : Code → Code | .block _ b => b | c => c
def cP : Code → Code | .loop b => b | c => c
noncomputable def cnt : Code := match Tryz.f7.body with | some c => c | none => .skip
/-- Behind the two calls of Mod: the record is made; i := 0. -/
noncomputable def cnt2 : Code := cL (cR (cR cnt))
noncomputable def cnt3 : Code := cL (cL (cR (cR (cR cnt))))
noncomputable def cntLoop : Code := cP (cB (cR (cL (cR (cR (cR cnt))))))
noncomputable def cntTest : Code := cL cntLoop
noncomputable def cntBody : Code := cR cntLoop
def vi (n : Nat) : Value := .int .i64 (.ofNat n)
noncomputable def exC : Eval := exQ Tryz.prog (natA 261 99) (drwQ Tryz.prog) 200 [] false
noncomputable def tmA (I : Nat) (T : Int) : Tr Value := putC [vi I, .int .i64 T] .nil 0 fun t => t
noncomputable def initC (I : Nat) (T : Int) : EvR := exC (.seq cnt2 cnt3) (tmA I T) 50 ⟨0, .nil⟩
end Go.Proofs.YtkmhbfgkhalaoaaGreatDoor.LM
