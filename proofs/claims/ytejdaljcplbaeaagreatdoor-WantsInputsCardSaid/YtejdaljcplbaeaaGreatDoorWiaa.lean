/- WantsInputs: some of its cases, run by the kernel. -/
import Derived.Test.YtejdaljcplbaeaaGreatDoorZKn
import Derived.KernelRfl
namespace Go.Proofs.YtejdaljcplbaeaaGreatDoor
open Go Go.Proofs Go.Proofs.YtejdaljcplbaeaaGreatDoor.Ex
set_option maxRecDepth 1000000
theorem WiPart0 : (caseOk Tryz.prog 231 206 6 .nil [.num .i16 1 0 (-32768) (-1), .tru true, .tru true, .tru true] && caseOk Tryz.prog 231 206 6 .nil [.num .i16 1 0 (-32768) (-1), .tru true, .tru true, .tru false] && caseOk Tryz.prog 231 206 6 .nil [.num .i16 1 0 (-32768) (-1), .tru true, .tru false, .tru true] && caseOk Tryz.prog 231 206 6 .nil [.num .i16 1 0 (-32768) (-1), .tru true, .tru false, .tru false] && caseOk Tryz.prog 231 206 6 .nil [.num .i16 1 0 (-32768) (-1), .tru false, .tru true, .tru true] && caseOk Tryz.prog 231 206 6 .nil [.num .i16 1 0 (-32768) (-1), .tru false, .tru true, .tru false] && caseOk Tryz.prog 231 206 6 .nil [.num .i16 1 0 (-32768) (-1), .tru false, .tru false, .tru true] && caseOk Tryz.prog 231 206 6 .nil [.num .i16 1 0 (-32768) (-1), .tru false, .tru false, .tru false]) = true := by kernel_rfl
end Go.Proofs.YtejdaljcplbaeaaGreatDoor
