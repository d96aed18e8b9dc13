/- WantsCircle: some of its cases, run by the kernel. -/
import Derived.Test.YtejdaljcplbaeaaGreatDoorZKn
import Derived.KernelRfl
namespace Go.Proofs.YtejdaljcplbaeaaGreatDoor
open Go Go.Proofs Go.Proofs.YtejdaljcplbaeaaGreatDoor.Ex
set_option maxRecDepth 1000000
theorem WcPart0 : (caseOk Tryz.prog 231 206 7 .nil [.num .u8 6 0 0 42, .tru true] && caseOk Tryz.prog 231 206 7 .nil [.num .u8 6 1 0 42, .tru true] && caseOk Tryz.prog 231 206 7 .nil [.num .u8 6 2 0 42, .tru true] && caseOk Tryz.prog 231 206 7 .nil [.num .u8 6 3 0 42, .tru true] && caseOk Tryz.prog 231 206 7 .nil [.num .u8 6 4 0 41, .tru true] && caseOk Tryz.prog 231 206 7 .nil [.num .u8 6 5 0 41, .tru true]) = true := by kernel_rfl
end Go.Proofs.YtejdaljcplbaeaaGreatDoor
