/- awake(): the closed run, and what it says of the machine. -/
import Derived.Test.YtkmhbfgkhalaoaaGreatDoorAwA
set_option linter.unusedVariables false
namespace Go.Proofs.YtkmhbfgkhalaoaaGreatDoor.LM
open Go Go.RowKit
theorem noNum : noNumB Tryz.prog = true := by kernel_rfl
theorem mixed : Tryz.prog.follows .mixedOrders = true := by kernel_rfl
theorem nats : NatsOk Tryz.prog 261 99 :=
  ⟨⟨Tryz.f261, by kernel_rfl, by kernel_rfl, by kernel_rfl, by kernel_rfl, by kernel_rfl⟩, ⟨Tryz.f99, by kernel_rfl, by kernel_rfl, by kernel_rfl, by kernel_rfl, by kernel_rfl⟩⟩
theorem awakeT (w : World) : Calls Tryz.prog 8 #[] w fun e w' => e = .returned (.bool true) ∧ Below w.heap.size w w' :=
  closed_true noNum mixed nats (vs := []) rfl (by rw [← runQ0_eq]; exact awake_run) w
/-- The evaluator that is laid out for the kernel, at this program. -/
theorem exC_sound (n : Nat) (env : Env) (inR : Bool) : SoundC Tryz.prog env inR (exQ Tryz.prog (natA 261 99) (drwQ Tryz.prog) n env inR) := by
  rw [exQ_eq, drwQ_eq]
  exact (ex_sound (noNumB_spec noNum) (natA_ok nats) (drwA_ok (noNumB_spec noNum) mixed) n).all env inR
end Go.Proofs.YtkmhbfgkhalaoaaGreatDoor.LM
