/- Package record on marks and steps of known names: each of them, run by the kernel. -/
import Derived.Test.YtfcfliclmjikkaaGreatDoorBa
namespace Go.Proofs.YtfcfliclmjikkaaGreatDoor
open Go Go.Proofs Go.Proofs.YtfcfliclmjikkaaGreatDoor.Ex
set_option maxRecDepth 1000000
theorem rowTab0 : ((List.range' 0 130).all rowOk) = true := by kernel_rfl
theorem rowTab1 : ((List.range' 130 130).all rowOk) = true := by kernel_rfl
theorem stepTab : (isC 21 [stA] isTrue && isC 37 [stA] isShort && isC 8 [] isTrue) = true := by kernel_rfl
end Go.Proofs.YtfcfliclmjikkaaGreatDoor
