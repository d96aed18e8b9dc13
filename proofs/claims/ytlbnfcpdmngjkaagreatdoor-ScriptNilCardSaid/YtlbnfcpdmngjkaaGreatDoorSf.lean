/- ScriptNil, run by the kernel. -/
import Derived.Test.YtlbnfcpdmngjkaaGreatDoorSe
namespace Go.Proofs.YtlbnfcpdmngjkaaGreatDoor
open Go Go.Proofs
set_option maxRecDepth 1000000
theorem ranNil : Ex.fastB (Ex.mkTys Tryz.prog 0 Tryz.prog.types.size .nil) fns env1 100000 60 4 [.agg [.opq 0, .opq 1, .opq 2, .opq 3, .opq 4, .opq 5, .opq 6, .opq 7, .opq 8, .opq 9, .opq 10, .opq 11, .opq 12, .opq 13, .opq 14, .opq 15, .opq 16, .opq 17]] = true := by kernel_rfl
end Go.Proofs.YtlbnfcpdmngjkaaGreatDoor
