/- RefsCircle: some of its cases, run by Lean's kernel. -/
import Derived.Test.YtbmjdkbakeckoaaRca
namespace Go.Proofs.Ytbmjdkbakeckoaa
set_option maxRecDepth 1000000
theorem partc : (caseB 0 2 && caseB 2 0 && caseB 4 1 && caseB 5 0 && caseB 9 2 && caseB 10 0) = true := by kernel_rfl
end Go.Proofs.Ytbmjdkbakeckoaa
