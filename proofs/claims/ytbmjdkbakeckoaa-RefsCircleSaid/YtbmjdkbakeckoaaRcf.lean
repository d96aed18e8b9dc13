/- RefsCircle: some of its cases, run by Lean's kernel. -/
import Derived.Test.YtbmjdkbakeckoaaRca
namespace Go.Proofs.Ytbmjdkbakeckoaa
set_option maxRecDepth 1000000
theorem partf : (caseB 1 1 && caseB 3 0 && caseB 4 0 && caseB 7 0 && caseB 8 2 && caseB 11 1) = true := by kernel_rfl
end Go.Proofs.Ytbmjdkbakeckoaa
