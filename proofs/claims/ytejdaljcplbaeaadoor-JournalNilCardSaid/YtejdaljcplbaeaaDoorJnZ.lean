/- JournalNil: all cases joined. -/
import Derived.Test.YtejdaljcplbaeaaDoorJnaa
namespace Go.Proofs.YtejdaljcplbaeaaDoor
open Go Go.Proofs Go.Proofs.YtejdaljcplbaeaaDoor.Ex
set_option linter.unusedVariables false
theorem Jn_all (a0 : ByteArray) (W : World) (hglob : GlobOk W) :
    Calls Tryd.prog 3 #[.string a0] W fun e w' => e = .returned (.bool true) ∧ RowKit.Below W.heap.size W w' := by
  have fin : ∀ {ars : List Ar} {qs : List Int}, caseOk Tryd.prog 115 146 3 globs ars = true → ArsOk ars qs [.string a0] → Calls Tryd.prog 3 #[.string a0] W fun e w' => e = .returned (.bool true) ∧ RowKit.Below W.heap.size W w' := fun {ars qs} h ha =>
    by
      obtain ⟨hsz, rv, hrv, h1⟩ := hglob
      refine case_law known Tryd.func3 rfl (by kernel_rfl) h ha (op := fun i => if i = 7 then rv else ([.string a0] : List Value)[i]?.getD default) (fun i v hv => ?_) (fun {g v} hg => ?_)
      · have : i = 0 := by
          rcases i with _ | i
          · rfl
          · simp at hv
        subst this
        simp only [List.getElem?_cons_zero, Option.some.injEq] at hv
        subst hv
        rfl
      · unfold globs at hg
        rw [Tr.get_set] at hg
        split at hg
        · rename_i e
          subst e
          simp only [Option.some.injEq] at hg
          subst hg
          refine ⟨hsz, rv, hrv, ?_⟩
          exact (show VR ⟨fun _ => none, fun i => qs.getD i 0, fun i => if i = 7 then rv else ([.string a0] : List Value)[i]?.getD default⟩ (.opq 7) rv from VR.opq 7 h1)
        · rw [Tr.get_nil] at hg; cases hg
  have h0 : (Ar.any).ok 0 (.string a0) := rfl
  exact fin (JnPart0) (.cons h0 .nil)
end Go.Proofs.YtejdaljcplbaeaaDoor
