/- JournalNil: some of its cases, run by the kernel. -/
import Derived.Test.YtejdaljcplbaeaaDoorJnG
import Derived.KernelRfl
namespace Go.Proofs.YtejdaljcplbaeaaDoor
open Go Go.Proofs Go.Proofs.YtejdaljcplbaeaaDoor.Ex
set_option maxRecDepth 1000000
theorem JnPart0 : (caseOk Tryd.prog 115 146 3 globs [.any]) = true := by kernel_rfl
end Go.Proofs.YtejdaljcplbaeaaDoor
