/- The closed facts of the row, joined. -/
import Derived.Test.YtlbnfcpdmngjkaaGreatDoorRa
import Derived.Test.YtlbnfcpdmngjkaaGreatDoorRb
import Derived.Test.YtlbnfcpdmngjkaaGreatDoorRc
import Derived.Test.YtlbnfcpdmngjkaaGreatDoorRd
import Derived.JoinedOf
namespace Go.Proofs.YtlbnfcpdmngjkaaGreatDoor
open Go
set_option maxRecDepth 1000000
theorem joined : joinedFacts Tryz.pinned.checked.prog 4 Tryz.f4 Rows.scriptNilSpec Rows.scriptNilRow = true := by
  unfold joinedFacts
  rw [fact10, fact11, fact12, fact13]
  kernel_rfl
end Go.Proofs.YtlbnfcpdmngjkaaGreatDoor
