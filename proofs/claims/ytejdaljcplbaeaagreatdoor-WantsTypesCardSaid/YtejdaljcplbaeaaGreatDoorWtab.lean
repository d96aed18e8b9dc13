/- WantsTypes: some of its cases, run by the kernel. -/
import Derived.Test.YtejdaljcplbaeaaGreatDoorZKn
import Derived.KernelRfl
namespace Go.Proofs.YtejdaljcplbaeaaGreatDoor
open Go Go.Proofs Go.Proofs.YtejdaljcplbaeaaGreatDoor.Ex
set_option maxRecDepth 1000000
theorem WtPart1 : (caseOk Tryz.prog 231 206 9 .nil [.num .u8 18 9 0 13] && caseOk Tryz.prog 231 206 9 .nil [.num .u8 18 10 0 13] && caseOk Tryz.prog 231 206 9 .nil [.num .u8 18 11 0 13] && caseOk Tryz.prog 231 206 9 .nil [.num .u8 18 12 0 13] && caseOk Tryz.prog 231 206 9 .nil [.num .u8 18 13 0 13] && caseOk Tryz.prog 231 206 9 .nil [.num .u8 18 14 0 13] && caseOk Tryz.prog 231 206 9 .nil [.num .u8 18 15 0 13] && caseOk Tryz.prog 231 206 9 .nil [.num .u8 18 16 0 13] && caseOk Tryz.prog 231 206 9 .nil [.num .u8 18 17 0 13]) = true := by kernel_rfl
end Go.Proofs.YtejdaljcplbaeaaGreatDoor
