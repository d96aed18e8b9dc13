/- The program of the great door's seat, with Go's body-less functions. -/
import Derived.Test.YtejdaljcplbaeaaGreatDoorFh
import Derived.Test.YtejdaljcplbaeaaGreatDoorProg
import Derived.KernelRfl
namespace Go.Proofs.YtejdaljcplbaeaaGreatDoor
open Go Go.Proofs Go.Proofs.YtejdaljcplbaeaaGreatDoor.Ex
set_option maxRecDepth 100000
theorem known : Known Tryz.prog 231 206 := ⟨⟨Tryz.f231, Tryz.func231, by kernel_rfl, by kernel_rfl, by kernel_rfl, by rfl⟩, ⟨Tryz.f206, Tryz.func206, by kernel_rfl, by kernel_rfl, by kernel_rfl, by rfl⟩, by kernel_rfl, by kernel_rfl, by kernel_rfl⟩
end Go.Proofs.YtejdaljcplbaeaaGreatDoor
