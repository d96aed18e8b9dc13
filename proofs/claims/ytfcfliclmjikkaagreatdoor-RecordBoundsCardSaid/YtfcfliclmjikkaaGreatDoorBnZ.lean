/- Package record: the law of its bounds, for every number. -/
import Derived.Test.YtfcfliclmjikkaaGreatDoorBh
import Derived.Test.YtfcfliclmjikkaaGreatDoorCards
import Derived.KernelRfl
namespace Go.Proofs.YtfcfliclmjikkaaGreatDoor
open Go Go.Proofs
open Go.RowKit
set_option maxRecDepth 1000000 in
theorem none_goes : (Tryz.prog.funcs.toList.all fun fn => !fn.goes) = true := by kernel_rfl
/-- Where no function starts one, none that is come to does. -/
theorem goes_off {P : Program} (h : (P.funcs.toList.all fun fn => !fn.goes) = true) (c : OpenClaim) (hs : c.start = .entering) : false = c.goesBy P := by
  have hall : ∀ fn ∈ P.funcs.toList, fn.goes = false := fun fn hf => by
    have := List.all_eq_true.1 h fn hf
    simpa using this
  have hg : ∀ f, P.goes f = false := fun f => by
    unfold Program.goes
    rw [Bool.or_eq_false_iff]
    constructor
    · rw [List.any_eq_false]
      intro g _
      cases hq : P.funcs[g]? with
      | none => simp
      | some fn =>
        have := hall fn (by
          have := List.mem_of_getElem? (l := P.funcs.toList) (i := g) (a := fn) (by rw [Array.getElem?_toList]; exact hq)
          exact this)
        simp [this]
    · rw [Bool.and_eq_false_iff]
      right
      rw [← Array.any_toList, List.any_eq_false]
      intro fn hf
      simp [hall fn hf]
  unfold OpenClaim.goesBy Program.goesAt Program.goesFrom
  rw [hs]
  cases hq : P.funcNamed c.func with
  | none => rfl
  | some f => simp [hg f]
theorem Bn_all (a0 : Int) (w0 : (Lit.int .u16 a0).wf = true) (a1 : Int) (w1 : (Lit.int .u16 a1).wf = true) (a2 : Int) (w2 : (Lit.int .i64 a2).wf = true) (W : World) :
    Calls Tryz.prog 5 #[.int .u16 a0, .int .u16 a1, .int .i64 a2] W fun e w' => e = .returned (.bool true) ∧ Below W.heap.size W w' := by
  simp [Lit.wf, IntKind.min, IntKind.max, IntKind.signed, IntKind.bits] at w0 w1 w2
  obtain ⟨a, rfl⟩ := Int.eq_ofNat_of_zero_le (show 0 ≤ a0 by omega)
  obtain ⟨b, rfl⟩ := Int.eq_ofNat_of_zero_le (show 0 ≤ a1 by omega)
  exact bounds_any a b (by omega) (by omega) a2 (by omega) (by omega) W
end Go.Proofs.YtfcfliclmjikkaaGreatDoor
