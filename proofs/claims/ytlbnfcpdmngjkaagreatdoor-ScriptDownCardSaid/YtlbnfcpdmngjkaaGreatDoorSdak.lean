/- ScriptDown: some of its cases, run by the kernel. -/
import Derived.Test.YtlbnfcpdmngjkaaGreatDoorSk
import Derived.KernelRfl
namespace Go.Proofs.YtlbnfcpdmngjkaaGreatDoor
open Go Go.Proofs Go.Proofs.YtlbnfcpdmngjkaaGreatDoor.Ex
set_option maxRecDepth 1000000
theorem SdPart10 : (caseS [(0, 42), (1, 127), (0, 85)] [.num .u8 6 3, .num .u8 2 0, .num .u8 3 0] && caseS [(0, 42), (1, 127), (0, 84)] [.num .u8 6 3, .num .u8 2 0, .num .u8 3 1] && caseS [(0, 42), (1, 127), (0, 84)] [.num .u8 6 3, .num .u8 2 0, .num .u8 3 2]) = true := by kernel_rfl
end Go.Proofs.YtlbnfcpdmngjkaaGreatDoor
