/- WantsInputs: all cases joined. -/
import Derived.Test.YtejdaljcplbaeaaGreatDoorWiaa
import Derived.Test.YtejdaljcplbaeaaGreatDoorWiab
namespace Go.Proofs.YtejdaljcplbaeaaGreatDoor
open Go Go.Proofs Go.Proofs.YtejdaljcplbaeaaGreatDoor.Ex
set_option linter.unusedVariables false
theorem WiCover0 (x : Int) (h : (-32768) ≤ x ∧ x ≤ 32767) : (∃ q, (Ar.num .i16 1 0 (-32768) (-1)).ok q (.int .i16 x)) ∨ (∃ q, (Ar.num .i16 1 0 0 32767).ok q (.int .i16 x)) := by
  rcases (by omega : (-32768) ≤ x ∧ x ≤ (-1) ∨ 0 ≤ x ∧ x ≤ 32767) with k | k
  · exact .inl ⟨x, by omega, by omega, congrArg (Value.int _) (by omega)⟩
  · exact .inr (⟨x, by omega, by omega, congrArg (Value.int _) (by omega)⟩)
theorem Wi_all (a0 : Int) (w0 : (Lit.int .i16 a0).wf = true) (a1 : Bool) (a2 : Bool) (a3 : Bool) (W : World)  :
    Calls Tryz.prog 6 #[.int .i16 a0, .bool a1, .bool a2, .bool a3] W fun e w' => e = .returned (.bool true) ∧ RowKit.Below W.heap.size W w' := by
  have b0 : (-32768) ≤ a0 ∧ a0 ≤ 32767 := by simp [Lit.wf, IntKind.min, IntKind.max, IntKind.signed, IntKind.bits] at w0; omega
  have fin : ∀ {ars : List Ar} {qs : List Int}, caseOk Tryz.prog 231 206 6 .nil ars = true → ArsOk ars qs [.int .i16 a0, .bool a1, .bool a2, .bool a3] → Calls Tryz.prog 6 #[.int .i16 a0, .bool a1, .bool a2, .bool a3] W fun e w' => e = .returned (.bool true) ∧ RowKit.Below W.heap.size W w' := fun h ha =>
    case_law known Tryz.func6 rfl (by kernel_rfl) h ha (op := fun i => ([.int .i16 a0, .bool a1, .bool a2, .bool a3] : List Value)[i]?.getD default) (fun i v hv => by rw [hv]; rfl) (fun {g v} hg => by rw [Tr.get_nil] at hg; cases hg)
  rcases WiCover0 a0 b0 with ⟨q0, h0⟩ | ⟨q0, h0⟩
  · cases a1
    · have h1 : (Ar.tru false).ok 0 (.bool false) := rfl
      cases a2
      · have h2 : (Ar.tru false).ok 0 (.bool false) := rfl
        cases a3
        · have h3 : (Ar.tru false).ok 0 (.bool false) := rfl
          exact fin ((Bool.and_eq_true_iff.mp WiPart0).2) (.cons h0 (.cons h1 (.cons h2 (.cons h3 .nil))))
        · have h3 : (Ar.tru true).ok 0 (.bool true) := rfl
          exact fin ((Bool.and_eq_true_iff.mp (Bool.and_eq_true_iff.mp WiPart0).1).2) (.cons h0 (.cons h1 (.cons h2 (.cons h3 .nil))))
      · have h2 : (Ar.tru true).ok 0 (.bool true) := rfl
        cases a3
        · have h3 : (Ar.tru false).ok 0 (.bool false) := rfl
          exact fin ((Bool.and_eq_true_iff.mp (Bool.and_eq_true_iff.mp (Bool.and_eq_true_iff.mp WiPart0).1).1).2) (.cons h0 (.cons h1 (.cons h2 (.cons h3 .nil))))
        · have h3 : (Ar.tru true).ok 0 (.bool true) := rfl
          exact fin ((Bool.and_eq_true_iff.mp (Bool.and_eq_true_iff.mp (Bool.and_eq_true_iff.mp (Bool.and_eq_true_iff.mp WiPart0).1).1).1).2) (.cons h0 (.cons h1 (.cons h2 (.cons h3 .nil))))
    · have h1 : (Ar.tru true).ok 0 (.bool true) := rfl
      cases a2
      · have h2 : (Ar.tru false).ok 0 (.bool false) := rfl
        cases a3
        · have h3 : (Ar.tru false).ok 0 (.bool false) := rfl
          exact fin ((Bool.and_eq_true_iff.mp (Bool.and_eq_true_iff.mp (Bool.and_eq_true_iff.mp (Bool.and_eq_true_iff.mp (Bool.and_eq_true_iff.mp WiPart0).1).1).1).1).2) (.cons h0 (.cons h1 (.cons h2 (.cons h3 .nil))))
        · have h3 : (Ar.tru true).ok 0 (.bool true) := rfl
          exact fin ((Bool.and_eq_true_iff.mp (Bool.and_eq_true_iff.mp (Bool.and_eq_true_iff.mp (Bool.and_eq_true_iff.mp (Bool.and_eq_true_iff.mp (Bool.and_eq_true_iff.mp WiPart0).1).1).1).1).1).2) (.cons h0 (.cons h1 (.cons h2 (.cons h3 .nil))))
      · have h2 : (Ar.tru true).ok 0 (.bool true) := rfl
        cases a3
        · have h3 : (Ar.tru false).ok 0 (.bool false) := rfl
          exact fin ((Bool.and_eq_true_iff.mp (Bool.and_eq_true_iff.mp (Bool.and_eq_true_iff.mp (Bool.and_eq_true_iff.mp (Bool.and_eq_true_iff.mp (Bool.and_eq_true_iff.mp (Bool.and_eq_true_iff.mp WiPart0).1).1).1).1).1).1).2) (.cons h0 (.cons h1 (.cons h2 (.cons h3 .nil))))
        · have h3 : (Ar.tru true).ok 0 (.bool true) := rfl
          exact fin ((Bool.and_eq_true_iff.mp (Bool.and_eq_true_iff.mp (Bool.and_eq_true_iff.mp (Bool.and_eq_true_iff.mp (Bool.and_eq_true_iff.mp (Bool.and_eq_true_iff.mp (Bool.and_eq_true_iff.mp WiPart0).1).1).1).1).1).1).1) (.cons h0 (.cons h1 (.cons h2 (.cons h3 .nil))))
  · cases a1
    · have h1 : (Ar.tru false).ok 0 (.bool false) := rfl
      cases a2
      · have h2 : (Ar.tru false).ok 0 (.bool false) := rfl
        cases a3
        · have h3 : (Ar.tru false).ok 0 (.bool false) := rfl
          exact fin ((Bool.and_eq_true_iff.mp WiPart1).2) (.cons h0 (.cons h1 (.cons h2 (.cons h3 .nil))))
        · have h3 : (Ar.tru true).ok 0 (.bool true) := rfl
          exact fin ((Bool.and_eq_true_iff.mp (Bool.and_eq_true_iff.mp WiPart1).1).2) (.cons h0 (.cons h1 (.cons h2 (.cons h3 .nil))))
      · have h2 : (Ar.tru true).ok 0 (.bool true) := rfl
        cases a3
        · have h3 : (Ar.tru false).ok 0 (.bool false) := rfl
          exact fin ((Bool.and_eq_true_iff.mp (Bool.and_eq_true_iff.mp (Bool.and_eq_true_iff.mp WiPart1).1).1).2) (.cons h0 (.cons h1 (.cons h2 (.cons h3 .nil))))
        · have h3 : (Ar.tru true).ok 0 (.bool true) := rfl
          exact fin ((Bool.and_eq_true_iff.mp (Bool.and_eq_true_iff.mp (Bool.and_eq_true_iff.mp (Bool.and_eq_true_iff.mp WiPart1).1).1).1).2) (.cons h0 (.cons h1 (.cons h2 (.cons h3 .nil))))
    · have h1 : (Ar.tru true).ok 0 (.bool true) := rfl
      cases a2
      · have h2 : (Ar.tru false).ok 0 (.bool false) := rfl
        cases a3
        · have h3 : (Ar.tru false).ok 0 (.bool false) := rfl
          exact fin ((Bool.and_eq_true_iff.mp (Bool.and_eq_true_iff.mp (Bool.and_eq_true_iff.mp (Bool.and_eq_true_iff.mp (Bool.and_eq_true_iff.mp WiPart1).1).1).1).1).2) (.cons h0 (.cons h1 (.cons h2 (.cons h3 .nil))))
        · have h3 : (Ar.tru true).ok 0 (.bool true) := rfl
          exact fin ((Bool.and_eq_true_iff.mp (Bool.and_eq_true_iff.mp (Bool.and_eq_true_iff.mp (Bool.and_eq_true_iff.mp (Bool.and_eq_true_iff.mp (Bool.and_eq_true_iff.mp WiPart1).1).1).1).1).1).2) (.cons h0 (.cons h1 (.cons h2 (.cons h3 .nil))))
      · have h2 : (Ar.tru true).ok 0 (.bool true) := rfl
        cases a3
        · have h3 : (Ar.tru false).ok 0 (.bool false) := rfl
          exact fin ((Bool.and_eq_true_iff.mp (Bool.and_eq_true_iff.mp (Bool.and_eq_true_iff.mp (Bool.and_eq_true_iff.mp (Bool.and_eq_true_iff.mp (Bool.and_eq_true_iff.mp (Bool.and_eq_true_iff.mp WiPart1).1).1).1).1).1).1).2) (.cons h0 (.cons h1 (.cons h2 (.cons h3 .nil))))
        · have h3 : (Ar.tru true).ok 0 (.bool true) := rfl
          exact fin ((Bool.and_eq_true_iff.mp (Bool.and_eq_true_iff.mp (Bool.and_eq_true_iff.mp (Bool.and_eq_true_iff.mp (Bool.and_eq_true_iff.mp (Bool.and_eq_true_iff.mp (Bool.and_eq_true_iff.mp WiPart1).1).1).1).1).1).1).1) (.cons h0 (.cons h1 (.cons h2 (.cons h3 .nil))))
end Go.Proofs.YtejdaljcplbaeaaGreatDoor
