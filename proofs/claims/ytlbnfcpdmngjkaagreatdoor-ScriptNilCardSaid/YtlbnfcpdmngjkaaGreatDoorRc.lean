/- A closed fact of the row. -/
import Derived.Test.YtlbnfcpdmngjkaaGreatDoorCards
import Derived.KernelRfl
namespace Go.Proofs.YtlbnfcpdmngjkaaGreatDoor
open Go
set_option maxRecDepth 1000000
theorem fact12 : (Rows.scriptNilRow.recurses == Tryz.pinned.checked.prog.recurses 4) = true := by kernel_rfl
end Go.Proofs.YtlbnfcpdmngjkaaGreatDoor
