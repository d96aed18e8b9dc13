/- OperatorNil, run by the kernel. -/
import Derived.Test.YtpebffohgnnmkaaGreatDoorOe
namespace Go.Proofs.YtpebffohgnnmkaaGreatDoor
open Go Go.Proofs
set_option maxRecDepth 1000000
theorem ranNil : Ex.fastB (Ex.mkTys Tryz.prog 0 Tryz.prog.types.size .nil) fns env1 100000 60 3 [.opq 0, .opq 1] = true := by kernel_rfl
end Go.Proofs.YtpebffohgnnmkaaGreatDoor
