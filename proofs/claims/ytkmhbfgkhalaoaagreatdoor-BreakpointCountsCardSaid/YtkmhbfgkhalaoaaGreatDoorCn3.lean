/- BreakpointCounts: the walk. -/
import Derived.Test.YtkmhbfgkhalaoaaGreatDoorCn2
import Derived.WalkKit
set_option linter.unusedVariables false
set_option linter.unusedSimpArgs false
namespace Go.Proofs.YtkmhbfgkhalaoaaGreatDoor.LM
open Go Go.RowKit
theorem modT (a : Int) (n : Nat) (hn : 0 < n ∧ n < 1000) (w : World) : Calls Tryz.prog 12 #[.int .i64 a, .int .i64 n] w fun e w' => ∃ k : Nat, k < n ∧ e = .returned (.int .i64 k) ∧ w' = w := by
  have hn0 : ((n : Int) == 0) = false := by simp; omega
  by_cases h : a.tmod n < 0
  · have h2 : -(n : Int) < a.tmod n := Int.lt_tmod_of_pos a (by omega)
    go_enter Tryz.func12, Tryz.ntmps12
    go_wp2
    go_ret
    refine ⟨(a.tmod n + n).toNat, by omega, ?_, rfl⟩
    have e : ((a.tmod n + n).toNat : Int) = a.tmod n + n := by omega
    rw [e]; rfl
  · have h2 : a.tmod n < n := Int.tmod_lt_of_pos a (by omega)
    go_enter Tryz.func12, Tryz.ntmps12
    go_wp2
    go_ret
    refine ⟨(a.tmod n).toNat, by omega, ?_, rfl⟩
    have e : ((a.tmod n).toNat : Int) = a.tmod n := by omega
    rw [e]; rfl
end Go.Proofs.YtkmhbfgkhalaoaaGreatDoor.LM
