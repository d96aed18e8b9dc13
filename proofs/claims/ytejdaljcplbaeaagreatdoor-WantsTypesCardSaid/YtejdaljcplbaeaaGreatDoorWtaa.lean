/- WantsTypes: some of its cases, run by the kernel. -/
import Derived.Test.YtejdaljcplbaeaaGreatDoorZKn
import Derived.KernelRfl
namespace Go.Proofs.YtejdaljcplbaeaaGreatDoor
open Go Go.Proofs Go.Proofs.YtejdaljcplbaeaaGreatDoor.Ex
set_option maxRecDepth 1000000
theorem WtPart0 : (caseOk Tryz.prog 231 206 9 .nil [.num .u8 18 0 0 14] && caseOk Tryz.prog 231 206 9 .nil [.num .u8 18 1 0 14] && caseOk Tryz.prog 231 206 9 .nil [.num .u8 18 2 0 14] && caseOk Tryz.prog 231 206 9 .nil [.num .u8 18 3 0 14] && caseOk Tryz.prog 231 206 9 .nil [.num .u8 18 4 0 13] && caseOk Tryz.prog 231 206 9 .nil [.num .u8 18 5 0 13] && caseOk Tryz.prog 231 206 9 .nil [.num .u8 18 6 0 13] && caseOk Tryz.prog 231 206 9 .nil [.num .u8 18 7 0 13] && caseOk Tryz.prog 231 206 9 .nil [.num .u8 18 8 0 13]) = true := by kernel_rfl
end Go.Proofs.YtejdaljcplbaeaaGreatDoor
