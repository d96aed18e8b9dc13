/- The closed facts of the row, joined. -/
import Derived.Test.YtlbnfcpdmngjkaaGreatDoorCards
import Derived.KernelRfl
import Derived.JoinedOf
namespace Go.Proofs.YtlbnfcpdmngjkaaGreatDoor
open Go
set_option maxRecDepth 1000000
theorem fact10 : (Rows.scriptDownRow.inPlace == Tryz.pinned.checked.prog.inPlace 3) = true := by kernel_rfl
theorem fact11 : (Rows.scriptDownRow.unfollowed == Tryz.pinned.checked.prog.unfollowed 3) = true := by kernel_rfl
theorem fact12 : (Rows.scriptDownRow.recurses == Tryz.pinned.checked.prog.recurses 3) = true := by kernel_rfl
theorem fact13 : (Rows.scriptDownRow.named == Tryz.pinned.checked.prog.varsNamed 3) = true := by kernel_rfl
theorem joined : joinedFacts Tryz.pinned.checked.prog 3 Tryz.f3 Rows.scriptDownSpec Rows.scriptDownRow = true := by
  unfold joinedFacts
  rw [fact10, fact11, fact12, fact13]
  kernel_rfl
end Go.Proofs.YtlbnfcpdmngjkaaGreatDoor
