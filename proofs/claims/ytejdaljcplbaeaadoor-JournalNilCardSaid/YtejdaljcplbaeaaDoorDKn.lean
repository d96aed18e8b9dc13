/- The program of the door's seat, with Go's body-less functions. -/
import Derived.Test.YtejdaljcplbaeaaDoorFh
import Derived.Test.YtejdaljcplbaeaaDoorProg
import Derived.KernelRfl
namespace Go.Proofs.YtejdaljcplbaeaaDoor
open Go Go.Proofs Go.Proofs.YtejdaljcplbaeaaDoor.Ex
set_option maxRecDepth 100000
theorem known : Known Tryd.prog 115 146 := ⟨⟨Tryd.f115, Tryd.func115, by kernel_rfl, by kernel_rfl, by kernel_rfl, by rfl⟩, ⟨Tryd.f146, Tryd.func146, by kernel_rfl, by kernel_rfl, by kernel_rfl, by rfl⟩, by kernel_rfl, by kernel_rfl, by kernel_rfl⟩
end Go.Proofs.YtejdaljcplbaeaaDoor
