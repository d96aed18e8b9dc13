/- WantsModules: some of its cases, run by the kernel. -/
import Derived.Test.YtejdaljcplbaeaaGreatDoorZKn
import Derived.KernelRfl
namespace Go.Proofs.YtejdaljcplbaeaaGreatDoor
open Go Go.Proofs Go.Proofs.YtejdaljcplbaeaaGreatDoor.Ex
set_option maxRecDepth 1000000
theorem WmPart5 : (caseOk Tryz.prog 231 206 5 .nil [.num .u8 6 2 0 42, .num .u16 1 0 1 65535, .tru true] && caseOk Tryz.prog 231 206 5 .nil [.num .u8 6 2 0 42, .num .u16 1 0 1 65535, .tru false] && caseOk Tryz.prog 231 206 5 .nil [.num .u8 6 3 0 42, .num .u16 1 0 1 65535, .tru true] && caseOk Tryz.prog 231 206 5 .nil [.num .u8 6 3 0 42, .num .u16 1 0 1 65535, .tru false]) = true := by kernel_rfl
end Go.Proofs.YtejdaljcplbaeaaGreatDoor
