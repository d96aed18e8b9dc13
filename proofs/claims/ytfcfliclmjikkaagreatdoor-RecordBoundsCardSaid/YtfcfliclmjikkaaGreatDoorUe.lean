/- The closed facts of the row, joined. -/
import Derived.Test.YtfcfliclmjikkaaGreatDoorCards
import Derived.KernelRfl
import Derived.JoinedOf
namespace Go.Proofs.YtfcfliclmjikkaaGreatDoor
open Go
set_option maxRecDepth 1000000
theorem fact10 : (Rows.recordBoundsRow.inPlace == Tryz.pinned.checked.prog.inPlace 5) = true := by kernel_rfl
theorem fact11 : (Rows.recordBoundsRow.unfollowed == Tryz.pinned.checked.prog.unfollowed 5) = true := by kernel_rfl
theorem fact12 : (Rows.recordBoundsRow.recurses == Tryz.pinned.checked.prog.recurses 5) = true := by kernel_rfl
theorem fact13 : (Rows.recordBoundsRow.named == Tryz.pinned.checked.prog.varsNamed 5) = true := by kernel_rfl
theorem joined : joinedFacts Tryz.pinned.checked.prog 5 Tryz.f5 Rows.recordBoundsSpec Rows.recordBoundsRow = true := by
  unfold joinedFacts
  rw [fact10, fact11, fact12, fact13]
  kernel_rfl
end Go.Proofs.YtfcfliclmjikkaaGreatDoor
