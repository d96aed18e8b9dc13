/- A closed fact of the row. -/
import Derived.Test.YtpebffohgnnmkaaGreatDoorCards
import Derived.KernelRfl
namespace Go.Proofs.YtpebffohgnnmkaaGreatDoor
open Go
set_option maxRecDepth 1000000
theorem fact11 : (Rows.operatorNilRow.unfollowed == Tryz.pinned.checked.prog.unfollowed 3) = true := by kernel_rfl
end Go.Proofs.YtpebffohgnnmkaaGreatDoor
