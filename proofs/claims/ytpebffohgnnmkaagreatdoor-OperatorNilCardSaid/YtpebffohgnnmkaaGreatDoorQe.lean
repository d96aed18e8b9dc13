/- The closed facts of the row, joined. -/
import Derived.Test.YtpebffohgnnmkaaGreatDoorQa
import Derived.Test.YtpebffohgnnmkaaGreatDoorQb
import Derived.Test.YtpebffohgnnmkaaGreatDoorQc
import Derived.Test.YtpebffohgnnmkaaGreatDoorQd
import Derived.JoinedOf
namespace Go.Proofs.YtpebffohgnnmkaaGreatDoor
open Go
set_option maxRecDepth 1000000
theorem joined : joinedFacts Tryz.pinned.checked.prog 3 Tryz.f3 Rows.operatorNilSpec Rows.operatorNilRow = true := by
  unfold joinedFacts
  rw [fact10, fact11, fact12, fact13]
  kernel_rfl
end Go.Proofs.YtpebffohgnnmkaaGreatDoor
