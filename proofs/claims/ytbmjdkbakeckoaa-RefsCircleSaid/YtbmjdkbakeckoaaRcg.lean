/- RefsCircle: some of its cases, run by Lean's kernel. -/
import Derived.Test.YtbmjdkbakeckoaaRca
namespace Go.Proofs.Ytbmjdkbakeckoaa
set_option maxRecDepth 1000000
theorem partg : (caseB 1 2 && caseB 3 1 && caseB 5 1 && caseB 6 0 && caseB 10 1 && caseB 11 2) = true := by kernel_rfl
end Go.Proofs.Ytbmjdkbakeckoaa
