/- A closed fact of the row. -/
import Derived.Test.YtlbnfcpdmngjkaaGreatDoorCards
import Derived.KernelRfl
namespace Go.Proofs.YtlbnfcpdmngjkaaGreatDoor
open Go
set_option maxRecDepth 1000000
theorem fact11 : (Rows.scriptNilRow.unfollowed == Tryz.pinned.checked.prog.unfollowed 4) = true := by kernel_rfl
end Go.Proofs.YtlbnfcpdmngjkaaGreatDoor
