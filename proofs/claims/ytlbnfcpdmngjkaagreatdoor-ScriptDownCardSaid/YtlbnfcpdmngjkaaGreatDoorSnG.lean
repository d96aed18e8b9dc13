/- What the package variable that is handed on holds: one cell; no function of the program starts a goroutine. -/
import Derived.Test.YtlbnfcpdmngjkaaGreatDoorCards
import Derived.KernelRfl
namespace Go.Proofs.YtlbnfcpdmngjkaaGreatDoor
open Go Go.Proofs
def GlobOk (W : World) : Prop := 1 < W.heap.size ∧ ∃ rv, W.cell? ⟨1, 0, none⟩ = some rv ∧ rv.oneCell' = true
set_option maxRecDepth 1000000 in
theorem none_goes : (Tryz.prog.funcs.toList.all fun fn => !fn.goes) = true := by kernel_rfl
/-- Where no function starts one, none that is come to does. -/
theorem goes_off {P : Program} (h : (P.funcs.toList.all fun fn => !fn.goes) = true) (c : OpenClaim) (hs : c.start = .entering) : false = c.goesBy P := by
  have hall : ∀ fn ∈ P.funcs.toList, fn.goes = false := fun fn hf => by
    have := List.all_eq_true.1 h fn hf
    simpa using this
  have hg : ∀ f, P.goes f = false := fun f => by
    unfold Program.goes
    rw [Bool.or_eq_false_iff]
    constructor
    · rw [List.any_eq_false]
      intro g _
      cases hq : P.funcs[g]? with
      | none => simp
      | some fn =>
        have := hall fn (by
          have := List.mem_of_getElem? (l := P.funcs.toList) (i := g) (a := fn) (by rw [Array.getElem?_toList]; exact hq)
          exact this)
        simp [this]
    · rw [Bool.and_eq_false_iff]
      right
      rw [← Array.any_toList, List.any_eq_false]
      intro fn hf
      simp [hall fn hf]
  unfold OpenClaim.goesBy Program.goesAt Program.goesFrom
  rw [hs]
  cases hq : P.funcNamed c.func with
  | none => rfl
  | some f => simp [hg f]
end Go.Proofs.YtlbnfcpdmngjkaaGreatDoor
