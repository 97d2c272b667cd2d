/- awake() runs closed in the kernel: it answers true. No condition. -/
import Derived.Test.YtkmhbfgkhalaoaaGreatDoorLmC
import Derived.Test.YtkmhbfgkhalaoaaGreatDoorProg
import Derived.KernelRfl
open Go Go.Proofs Go.Proofs.YtkmhbfgkhalaoaaGreatDoor.LM
namespace Go.Proofs.YtkmhbfgkhalaoaaGreatDoor.LM
theorem awake_run : saysTrue (runQ0 Tryz.prog 261 99 5000 8 []) = true := by kernel_rfl
end Go.Proofs.YtkmhbfgkhalaoaaGreatDoor.LM
