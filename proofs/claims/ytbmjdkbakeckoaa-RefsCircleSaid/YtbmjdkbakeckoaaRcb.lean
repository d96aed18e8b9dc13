/- RefsCircle: some of its cases, run by Lean's kernel. -/
import Derived.Test.YtbmjdkbakeckoaaRca
namespace Go.Proofs.Ytbmjdkbakeckoaa
set_option maxRecDepth 1000000
theorem partb : (caseB 2 2 && caseB 4 2 && caseB 6 1 && caseB 8 1 && caseB 11 0) = true := by kernel_rfl
end Go.Proofs.Ytbmjdkbakeckoaa
