/- EvalLocals: some of its cases, run by the kernel. -/
import Derived.Test.YtejdaljcplbaeaaGreatDoorZKn
import Derived.KernelRfl
namespace Go.Proofs.YtejdaljcplbaeaaGreatDoor
open Go Go.Proofs Go.Proofs.YtejdaljcplbaeaaGreatDoor.Ex
set_option maxRecDepth 1000000
theorem EvPart1 : (caseOk Tryz.prog 231 206 3 .nil [.num .u8 14 12 0 17, .num .i16 1 0 (-32768) 32767] && caseOk Tryz.prog 231 206 3 .nil [.num .u8 14 10 0 17, .num .i16 1 0 (-32768) 32767] && caseOk Tryz.prog 231 206 3 .nil [.num .u8 14 1 0 18, .num .i16 1 0 (-32768) 32767] && caseOk Tryz.prog 231 206 3 .nil [.num .u8 14 2 0 18, .num .i16 1 0 (-32768) 32767]) = true := by kernel_rfl
end Go.Proofs.YtejdaljcplbaeaaGreatDoor
