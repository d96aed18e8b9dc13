/- WantsCircle: all cases joined. -/
import Derived.Test.YtejdaljcplbaeaaGreatDoorWcaa
import Derived.Test.YtejdaljcplbaeaaGreatDoorWcab
namespace Go.Proofs.YtejdaljcplbaeaaGreatDoor
open Go Go.Proofs Go.Proofs.YtejdaljcplbaeaaGreatDoor.Ex
set_option linter.unusedVariables false
theorem WcCover0 (x : Int) (h : 0 ≤ x ∧ x ≤ 255) : (∃ q, (Ar.num .u8 6 0 0 42).ok q (.int .u8 x)) ∨ (∃ q, (Ar.num .u8 6 1 0 42).ok q (.int .u8 x)) ∨ (∃ q, (Ar.num .u8 6 2 0 42).ok q (.int .u8 x)) ∨ (∃ q, (Ar.num .u8 6 3 0 42).ok q (.int .u8 x)) ∨ (∃ q, (Ar.num .u8 6 4 0 41).ok q (.int .u8 x)) ∨ (∃ q, (Ar.num .u8 6 5 0 41).ok q (.int .u8 x)) := by
  rcases (by omega : x % 6 = 0 ∨ x % 6 = 1 ∨ x % 6 = 2 ∨ x % 6 = 3 ∨ x % 6 = 4 ∨ x % 6 = 5) with k | k | k | k | k | k
  · exact .inl ⟨x / 6, by omega, by omega, congrArg (Value.int _) (by omega)⟩
  · exact .inr (.inl ⟨x / 6, by omega, by omega, congrArg (Value.int _) (by omega)⟩)
  · exact .inr (.inr (.inl ⟨x / 6, by omega, by omega, congrArg (Value.int _) (by omega)⟩))
  · exact .inr (.inr (.inr (.inl ⟨x / 6, by omega, by omega, congrArg (Value.int _) (by omega)⟩)))
  · exact .inr (.inr (.inr (.inr (.inl ⟨x / 6, by omega, by omega, congrArg (Value.int _) (by omega)⟩))))
  · exact .inr (.inr (.inr (.inr (.inr (⟨x / 6, by omega, by omega, congrArg (Value.int _) (by omega)⟩)))))
theorem Wc_all (a0 : Int) (w0 : (Lit.int .u8 a0).wf = true) (a1 : Bool) (W : World)  :
    Calls Tryz.prog 7 #[.int .u8 a0, .bool a1] W fun e w' => e = .returned (.bool true) ∧ RowKit.Below W.heap.size W w' := by
  have b0 : 0 ≤ a0 ∧ a0 ≤ 255 := by simp [Lit.wf, IntKind.min, IntKind.max, IntKind.signed, IntKind.bits] at w0; omega
  have fin : ∀ {ars : List Ar} {qs : List Int}, caseOk Tryz.prog 231 206 7 .nil ars = true → ArsOk ars qs [.int .u8 a0, .bool a1] → Calls Tryz.prog 7 #[.int .u8 a0, .bool a1] W fun e w' => e = .returned (.bool true) ∧ RowKit.Below W.heap.size W w' := fun h ha =>
    case_law known Tryz.func7 rfl (by kernel_rfl) h ha (op := fun i => ([.int .u8 a0, .bool a1] : List Value)[i]?.getD default) (fun i v hv => by rw [hv]; rfl) (fun {g v} hg => by rw [Tr.get_nil] at hg; cases hg)
  rcases WcCover0 a0 b0 with ⟨q0, h0⟩ | ⟨q0, h0⟩ | ⟨q0, h0⟩ | ⟨q0, h0⟩ | ⟨q0, h0⟩ | ⟨q0, h0⟩
  · cases a1
    · have h1 : (Ar.tru false).ok 0 (.bool false) := rfl
      exact fin ((Bool.and_eq_true_iff.mp (Bool.and_eq_true_iff.mp (Bool.and_eq_true_iff.mp (Bool.and_eq_true_iff.mp (Bool.and_eq_true_iff.mp WcPart1).1).1).1).1).1) (.cons h0 (.cons h1 .nil))
    · have h1 : (Ar.tru true).ok 0 (.bool true) := rfl
      exact fin ((Bool.and_eq_true_iff.mp (Bool.and_eq_true_iff.mp (Bool.and_eq_true_iff.mp (Bool.and_eq_true_iff.mp (Bool.and_eq_true_iff.mp WcPart0).1).1).1).1).1) (.cons h0 (.cons h1 .nil))
  · cases a1
    · have h1 : (Ar.tru false).ok 0 (.bool false) := rfl
      exact fin ((Bool.and_eq_true_iff.mp (Bool.and_eq_true_iff.mp (Bool.and_eq_true_iff.mp (Bool.and_eq_true_iff.mp (Bool.and_eq_true_iff.mp WcPart1).1).1).1).1).2) (.cons h0 (.cons h1 .nil))
    · have h1 : (Ar.tru true).ok 0 (.bool true) := rfl
      exact fin ((Bool.and_eq_true_iff.mp (Bool.and_eq_true_iff.mp (Bool.and_eq_true_iff.mp (Bool.and_eq_true_iff.mp (Bool.and_eq_true_iff.mp WcPart0).1).1).1).1).2) (.cons h0 (.cons h1 .nil))
  · cases a1
    · have h1 : (Ar.tru false).ok 0 (.bool false) := rfl
      exact fin ((Bool.and_eq_true_iff.mp (Bool.and_eq_true_iff.mp (Bool.and_eq_true_iff.mp (Bool.and_eq_true_iff.mp WcPart1).1).1).1).2) (.cons h0 (.cons h1 .nil))
    · have h1 : (Ar.tru true).ok 0 (.bool true) := rfl
      exact fin ((Bool.and_eq_true_iff.mp (Bool.and_eq_true_iff.mp (Bool.and_eq_true_iff.mp (Bool.and_eq_true_iff.mp WcPart0).1).1).1).2) (.cons h0 (.cons h1 .nil))
  · cases a1
    · have h1 : (Ar.tru false).ok 0 (.bool false) := rfl
      exact fin ((Bool.and_eq_true_iff.mp (Bool.and_eq_true_iff.mp (Bool.and_eq_true_iff.mp WcPart1).1).1).2) (.cons h0 (.cons h1 .nil))
    · have h1 : (Ar.tru true).ok 0 (.bool true) := rfl
      exact fin ((Bool.and_eq_true_iff.mp (Bool.and_eq_true_iff.mp (Bool.and_eq_true_iff.mp WcPart0).1).1).2) (.cons h0 (.cons h1 .nil))
  · cases a1
    · have h1 : (Ar.tru false).ok 0 (.bool false) := rfl
      exact fin ((Bool.and_eq_true_iff.mp (Bool.and_eq_true_iff.mp WcPart1).1).2) (.cons h0 (.cons h1 .nil))
    · have h1 : (Ar.tru true).ok 0 (.bool true) := rfl
      exact fin ((Bool.and_eq_true_iff.mp (Bool.and_eq_true_iff.mp WcPart0).1).2) (.cons h0 (.cons h1 .nil))
  · cases a1
    · have h1 : (Ar.tru false).ok 0 (.bool false) := rfl
      exact fin ((Bool.and_eq_true_iff.mp WcPart1).2) (.cons h0 (.cons h1 .nil))
    · have h1 : (Ar.tru true).ok 0 (.bool true) := rfl
      exact fin ((Bool.and_eq_true_iff.mp WcPart0).2) (.cons h0 (.cons h1 .nil))
end Go.Proofs.YtejdaljcplbaeaaGreatDoor
