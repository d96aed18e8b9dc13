/- RefsCircle: some of its cases, run by Lean's kernel. -/
import Derived.Test.YtbmjdkbakeckoaaRca
namespace Go.Proofs.Ytbmjdkbakeckoaa
set_option maxRecDepth 1000000
theorem parte : (caseB 1 0 && caseB 3 2 && caseB 6 2 && caseB 7 1 && caseB 8 0 && caseB 10 2) = true := by kernel_rfl
end Go.Proofs.Ytbmjdkbakeckoaa
