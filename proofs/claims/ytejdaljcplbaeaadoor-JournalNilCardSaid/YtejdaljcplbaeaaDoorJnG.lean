/- What the package variable that is handed on holds: one cell. -/
import Derived.Test.YtejdaljcplbaeaaDoorDKn
namespace Go.Proofs.YtejdaljcplbaeaaDoor
open Go Go.Proofs Go.Proofs.YtejdaljcplbaeaaDoor.Ex
def globs : Tr AV := Tr.nil.set 1 (.opq 7)
def GlobOk (W : World) : Prop := 1 < W.heap.size ∧ ∃ rv, W.cell? ⟨1, 0, none⟩ = some rv ∧ rv.oneCell' = true
end Go.Proofs.YtejdaljcplbaeaaDoor
