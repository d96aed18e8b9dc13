/- WantsMany: some of its cases, run by the kernel. -/
import Derived.Test.YtejdaljcplbaeaaGreatDoorZKn
import Derived.KernelRfl
namespace Go.Proofs.YtejdaljcplbaeaaGreatDoor
open Go Go.Proofs Go.Proofs.YtejdaljcplbaeaaGreatDoor.Ex
set_option maxRecDepth 1000000
theorem WyPart9 : (caseOk Tryz.prog 231 206 8 .nil [(0, 31), (0, 8)] [.num .u8 8 6, .num .u8 30 0] && caseOk Tryz.prog 231 206 8 .nil [(0, 31), (0, 8)] [.num .u8 8 6, .num .u8 30 1] && caseOk Tryz.prog 231 206 8 .nil [(0, 31), (0, 8)] [.num .u8 8 6, .num .u8 30 2] && caseOk Tryz.prog 231 206 8 .nil [(0, 31), (0, 8)] [.num .u8 8 6, .num .u8 30 3] && caseOk Tryz.prog 231 206 8 .nil [(0, 31), (0, 8)] [.num .u8 8 6, .num .u8 30 4] && caseOk Tryz.prog 231 206 8 .nil [(0, 31), (0, 8)] [.num .u8 8 6, .num .u8 30 5] && caseOk Tryz.prog 231 206 8 .nil [(0, 31), (0, 8)] [.num .u8 8 6, .num .u8 30 6] && caseOk Tryz.prog 231 206 8 .nil [(0, 31), (0, 8)] [.num .u8 8 6, .num .u8 30 7] && caseOk Tryz.prog 231 206 8 .nil [(0, 31), (0, 8)] [.num .u8 8 6, .num .u8 30 8] && caseOk Tryz.prog 231 206 8 .nil [(0, 31), (0, 8)] [.num .u8 8 6, .num .u8 30 9] && caseOk Tryz.prog 231 206 8 .nil [(0, 31), (0, 8)] [.num .u8 8 6, .num .u8 30 10] && caseOk Tryz.prog 231 206 8 .nil [(0, 31), (0, 8)] [.num .u8 8 6, .num .u8 30 11] && caseOk Tryz.prog 231 206 8 .nil [(0, 31), (0, 8)] [.num .u8 8 6, .num .u8 30 12] && caseOk Tryz.prog 231 206 8 .nil [(0, 31), (0, 8)] [.num .u8 8 6, .num .u8 30 13] && caseOk Tryz.prog 231 206 8 .nil [(0, 31), (0, 8)] [.num .u8 8 6, .num .u8 30 14]) = true := by kernel_rfl
end Go.Proofs.YtejdaljcplbaeaaGreatDoor
