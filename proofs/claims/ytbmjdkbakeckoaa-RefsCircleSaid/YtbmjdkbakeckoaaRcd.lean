/- RefsCircle: some of its cases, run by Lean's kernel. -/
import Derived.Test.YtbmjdkbakeckoaaRca
namespace Go.Proofs.Ytbmjdkbakeckoaa
set_option maxRecDepth 1000000
theorem partd : (caseB 0 0 && caseB 0 1 && caseB 2 1 && caseB 5 2 && caseB 7 2 && caseB 9 0 && caseB 9 1) = true := by kernel_rfl
end Go.Proofs.Ytbmjdkbakeckoaa
