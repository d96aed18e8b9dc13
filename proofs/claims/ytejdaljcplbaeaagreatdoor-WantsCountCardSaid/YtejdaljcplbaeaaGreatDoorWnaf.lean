/- WantsCount: some of its cases, run by the kernel. -/
import Derived.Test.YtejdaljcplbaeaaGreatDoorZKn
import Derived.KernelRfl
namespace Go.Proofs.YtejdaljcplbaeaaGreatDoor
open Go Go.Proofs Go.Proofs.YtejdaljcplbaeaaGreatDoor.Ex
set_option maxRecDepth 1000000
theorem WnPart5 : (caseOk Tryz.prog 231 206 4 .nil [(0, 0), (1, 65535)] [.num .i8 0 19, .num .u16 1 0] && caseOk Tryz.prog 231 206 4 .nil [(0, 0), (1, 65535)] [.num .i8 0 16, .num .u16 1 0] && caseOk Tryz.prog 231 206 4 .nil [(0, 0), (1, 65535)] [.num .i8 0 4, .num .u16 1 0] && caseOk Tryz.prog 231 206 4 .nil [(0, 0), (1, 65535)] [.num .i8 0 5, .num .u16 1 0] && caseOk Tryz.prog 231 206 4 .nil [(0, 0), (1, 65535)] [.num .i8 0 6, .num .u16 1 0] && caseOk Tryz.prog 231 206 4 .nil [(21, 127), (1, 65535)] [.num .i8 1 0, .num .u16 1 0]) = true := by kernel_rfl
end Go.Proofs.YtejdaljcplbaeaaGreatDoor
