/- WantsCount: some of its cases, run by the kernel. -/
import Derived.Test.YtejdaljcplbaeaaGreatDoorZKn
import Derived.KernelRfl
namespace Go.Proofs.YtejdaljcplbaeaaGreatDoor
open Go Go.Proofs Go.Proofs.YtejdaljcplbaeaaGreatDoor.Ex
set_option maxRecDepth 1000000
theorem WnPart4 : (caseOk Tryz.prog 231 206 4 .nil [(0, 0), (1, 65535)] [.num .i8 0 20, .num .u16 1 0] && caseOk Tryz.prog 231 206 4 .nil [(0, 0), (1, 65535)] [.num .i8 0 17, .num .u16 1 0] && caseOk Tryz.prog 231 206 4 .nil [(0, 0), (1, 65535)] [.num .i8 0 0, .num .u16 1 0] && caseOk Tryz.prog 231 206 4 .nil [(0, 0), (1, 65535)] [.num .i8 0 1, .num .u16 1 0] && caseOk Tryz.prog 231 206 4 .nil [(0, 0), (1, 65535)] [.num .i8 0 2, .num .u16 1 0] && caseOk Tryz.prog 231 206 4 .nil [(0, 0), (1, 65535)] [.num .i8 0 3, .num .u16 1 0] && caseOk Tryz.prog 231 206 4 .nil [((-128), (-1)), (1, 65535)] [.num .i8 1 0, .num .u16 1 0]) = true := by kernel_rfl
end Go.Proofs.YtejdaljcplbaeaaGreatDoor
