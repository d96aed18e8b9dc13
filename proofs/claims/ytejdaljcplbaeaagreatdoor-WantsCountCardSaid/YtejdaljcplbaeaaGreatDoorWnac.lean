/- WantsCount: some of its cases, run by the kernel. -/
import Derived.Test.YtejdaljcplbaeaaGreatDoorZKn
import Derived.KernelRfl
namespace Go.Proofs.YtejdaljcplbaeaaGreatDoor
open Go Go.Proofs Go.Proofs.YtejdaljcplbaeaaGreatDoor.Ex
set_option maxRecDepth 1000000
theorem WnPart2 : (caseOk Tryz.prog 231 206 4 .nil [(0, 0), (0, 0)] [.num .i8 0 18, .num .u16 0 0] && caseOk Tryz.prog 231 206 4 .nil [(0, 0), (0, 0)] [.num .i8 0 15, .num .u16 0 0] && caseOk Tryz.prog 231 206 4 .nil [(0, 0), (0, 0)] [.num .i8 0 14, .num .u16 0 0] && caseOk Tryz.prog 231 206 4 .nil [(0, 0), (0, 0)] [.num .i8 0 7, .num .u16 0 0] && caseOk Tryz.prog 231 206 4 .nil [(0, 0), (0, 0)] [.num .i8 0 8, .num .u16 0 0]) = true := by kernel_rfl
end Go.Proofs.YtejdaljcplbaeaaGreatDoor
