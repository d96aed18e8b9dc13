/- WantsModules: all cases joined. -/
import Derived.Test.YtejdaljcplbaeaaGreatDoorWmaa
import Derived.Test.YtejdaljcplbaeaaGreatDoorWmab
import Derived.Test.YtejdaljcplbaeaaGreatDoorWmac
import Derived.Test.YtejdaljcplbaeaaGreatDoorWmad
import Derived.Test.YtejdaljcplbaeaaGreatDoorWmae
import Derived.Test.YtejdaljcplbaeaaGreatDoorWmaf
namespace Go.Proofs.YtejdaljcplbaeaaGreatDoor
open Go Go.Proofs Go.Proofs.YtejdaljcplbaeaaGreatDoor.Ex
set_option linter.unusedVariables false
theorem WmCover0 (x : Int) (h : 0 ≤ x ∧ x ≤ 255) : (∃ q, (Ar.num .u8 6 0 0 42).ok q (.int .u8 x)) ∨ (∃ q, (Ar.num .u8 6 1 0 42).ok q (.int .u8 x)) ∨ (∃ q, (Ar.num .u8 6 2 0 42).ok q (.int .u8 x)) ∨ (∃ q, (Ar.num .u8 6 3 0 42).ok q (.int .u8 x)) ∨ (∃ q, (Ar.num .u8 6 4 0 41).ok q (.int .u8 x)) ∨ (∃ q, (Ar.num .u8 6 5 0 41).ok q (.int .u8 x)) := by
  rcases (by omega : x % 6 = 0 ∨ x % 6 = 1 ∨ x % 6 = 2 ∨ x % 6 = 3 ∨ x % 6 = 4 ∨ x % 6 = 5) with k | k | k | k | k | k
  · exact .inl ⟨x / 6, by omega, by omega, congrArg (Value.int _) (by omega)⟩
  · exact .inr (.inl ⟨x / 6, by omega, by omega, congrArg (Value.int _) (by omega)⟩)
  · exact .inr (.inr (.inl ⟨x / 6, by omega, by omega, congrArg (Value.int _) (by omega)⟩))
  · exact .inr (.inr (.inr (.inl ⟨x / 6, by omega, by omega, congrArg (Value.int _) (by omega)⟩)))
  · exact .inr (.inr (.inr (.inr (.inl ⟨x / 6, by omega, by omega, congrArg (Value.int _) (by omega)⟩))))
  · exact .inr (.inr (.inr (.inr (.inr (⟨x / 6, by omega, by omega, congrArg (Value.int _) (by omega)⟩)))))
theorem WmCover1 (x : Int) (h : 0 ≤ x ∧ x ≤ 65535) : (∃ q, (Ar.num .u16 0 0 0 0).ok q (.int .u16 x)) ∨ (∃ q, (Ar.num .u16 1 0 1 65535).ok q (.int .u16 x)) := by
  rcases (by omega : x = 0 ∨ 1 ≤ x ∧ x ≤ 65535) with k | k
  · exact .inl ⟨0, by omega, by omega, congrArg (Value.int _) (by omega)⟩
  · exact .inr (⟨x, by omega, by omega, congrArg (Value.int _) (by omega)⟩)
theorem Wm_all (a0 : Int) (w0 : (Lit.int .u8 a0).wf = true) (a1 : Int) (w1 : (Lit.int .u16 a1).wf = true) (a2 : Bool) (W : World)  :
    Calls Tryz.prog 5 #[.int .u8 a0, .int .u16 a1, .bool a2] W fun e w' => e = .returned (.bool true) ∧ RowKit.Below W.heap.size W w' := by
  have b0 : 0 ≤ a0 ∧ a0 ≤ 255 := by simp [Lit.wf, IntKind.min, IntKind.max, IntKind.signed, IntKind.bits] at w0; omega
  have b1 : 0 ≤ a1 ∧ a1 ≤ 65535 := by simp [Lit.wf, IntKind.min, IntKind.max, IntKind.signed, IntKind.bits] at w1; omega
  have fin : ∀ {ars : List Ar} {qs : List Int}, caseOk Tryz.prog 231 206 5 .nil ars = true → ArsOk ars qs [.int .u8 a0, .int .u16 a1, .bool a2] → Calls Tryz.prog 5 #[.int .u8 a0, .int .u16 a1, .bool a2] W fun e w' => e = .returned (.bool true) ∧ RowKit.Below W.heap.size W w' := fun h ha =>
    case_law known Tryz.func5 rfl (by kernel_rfl) h ha (op := fun i => ([.int .u8 a0, .int .u16 a1, .bool a2] : List Value)[i]?.getD default) (fun i v hv => by rw [hv]; rfl) (fun {g v} hg => by rw [Tr.get_nil] at hg; cases hg)
  rcases WmCover0 a0 b0 with ⟨q0, h0⟩ | ⟨q0, h0⟩ | ⟨q0, h0⟩ | ⟨q0, h0⟩ | ⟨q0, h0⟩ | ⟨q0, h0⟩
  · rcases WmCover1 a1 b1 with ⟨q1, h1⟩ | ⟨q1, h1⟩
    · cases a2
      · have h2 : (Ar.tru false).ok 0 (.bool false) := rfl
        exact fin ((Bool.and_eq_true_iff.mp (Bool.and_eq_true_iff.mp (Bool.and_eq_true_iff.mp WmPart0).1).1).2) (.cons h0 (.cons h1 (.cons h2 .nil)))
      · have h2 : (Ar.tru true).ok 0 (.bool true) := rfl
        exact fin ((Bool.and_eq_true_iff.mp (Bool.and_eq_true_iff.mp (Bool.and_eq_true_iff.mp WmPart0).1).1).1) (.cons h0 (.cons h1 (.cons h2 .nil)))
    · cases a2
      · have h2 : (Ar.tru false).ok 0 (.bool false) := rfl
        exact fin ((Bool.and_eq_true_iff.mp (Bool.and_eq_true_iff.mp (Bool.and_eq_true_iff.mp WmPart3).1).1).2) (.cons h0 (.cons h1 (.cons h2 .nil)))
      · have h2 : (Ar.tru true).ok 0 (.bool true) := rfl
        exact fin ((Bool.and_eq_true_iff.mp (Bool.and_eq_true_iff.mp (Bool.and_eq_true_iff.mp WmPart3).1).1).1) (.cons h0 (.cons h1 (.cons h2 .nil)))
  · rcases WmCover1 a1 b1 with ⟨q1, h1⟩ | ⟨q1, h1⟩
    · cases a2
      · have h2 : (Ar.tru false).ok 0 (.bool false) := rfl
        exact fin ((Bool.and_eq_true_iff.mp (Bool.and_eq_true_iff.mp (Bool.and_eq_true_iff.mp WmPart1).1).1).2) (.cons h0 (.cons h1 (.cons h2 .nil)))
      · have h2 : (Ar.tru true).ok 0 (.bool true) := rfl
        exact fin ((Bool.and_eq_true_iff.mp (Bool.and_eq_true_iff.mp (Bool.and_eq_true_iff.mp WmPart1).1).1).1) (.cons h0 (.cons h1 (.cons h2 .nil)))
    · cases a2
      · have h2 : (Ar.tru false).ok 0 (.bool false) := rfl
        exact fin ((Bool.and_eq_true_iff.mp (Bool.and_eq_true_iff.mp (Bool.and_eq_true_iff.mp WmPart4).1).1).2) (.cons h0 (.cons h1 (.cons h2 .nil)))
      · have h2 : (Ar.tru true).ok 0 (.bool true) := rfl
        exact fin ((Bool.and_eq_true_iff.mp (Bool.and_eq_true_iff.mp (Bool.and_eq_true_iff.mp WmPart4).1).1).1) (.cons h0 (.cons h1 (.cons h2 .nil)))
  · rcases WmCover1 a1 b1 with ⟨q1, h1⟩ | ⟨q1, h1⟩
    · cases a2
      · have h2 : (Ar.tru false).ok 0 (.bool false) := rfl
        exact fin ((Bool.and_eq_true_iff.mp (Bool.and_eq_true_iff.mp (Bool.and_eq_true_iff.mp WmPart2).1).1).2) (.cons h0 (.cons h1 (.cons h2 .nil)))
      · have h2 : (Ar.tru true).ok 0 (.bool true) := rfl
        exact fin ((Bool.and_eq_true_iff.mp (Bool.and_eq_true_iff.mp (Bool.and_eq_true_iff.mp WmPart2).1).1).1) (.cons h0 (.cons h1 (.cons h2 .nil)))
    · cases a2
      · have h2 : (Ar.tru false).ok 0 (.bool false) := rfl
        exact fin ((Bool.and_eq_true_iff.mp (Bool.and_eq_true_iff.mp (Bool.and_eq_true_iff.mp WmPart5).1).1).2) (.cons h0 (.cons h1 (.cons h2 .nil)))
      · have h2 : (Ar.tru true).ok 0 (.bool true) := rfl
        exact fin ((Bool.and_eq_true_iff.mp (Bool.and_eq_true_iff.mp (Bool.and_eq_true_iff.mp WmPart5).1).1).1) (.cons h0 (.cons h1 (.cons h2 .nil)))
  · rcases WmCover1 a1 b1 with ⟨q1, h1⟩ | ⟨q1, h1⟩
    · cases a2
      · have h2 : (Ar.tru false).ok 0 (.bool false) := rfl
        exact fin ((Bool.and_eq_true_iff.mp WmPart2).2) (.cons h0 (.cons h1 (.cons h2 .nil)))
      · have h2 : (Ar.tru true).ok 0 (.bool true) := rfl
        exact fin ((Bool.and_eq_true_iff.mp (Bool.and_eq_true_iff.mp WmPart2).1).2) (.cons h0 (.cons h1 (.cons h2 .nil)))
    · cases a2
      · have h2 : (Ar.tru false).ok 0 (.bool false) := rfl
        exact fin ((Bool.and_eq_true_iff.mp WmPart5).2) (.cons h0 (.cons h1 (.cons h2 .nil)))
      · have h2 : (Ar.tru true).ok 0 (.bool true) := rfl
        exact fin ((Bool.and_eq_true_iff.mp (Bool.and_eq_true_iff.mp WmPart5).1).2) (.cons h0 (.cons h1 (.cons h2 .nil)))
  · rcases WmCover1 a1 b1 with ⟨q1, h1⟩ | ⟨q1, h1⟩
    · cases a2
      · have h2 : (Ar.tru false).ok 0 (.bool false) := rfl
        exact fin ((Bool.and_eq_true_iff.mp WmPart1).2) (.cons h0 (.cons h1 (.cons h2 .nil)))
      · have h2 : (Ar.tru true).ok 0 (.bool true) := rfl
        exact fin ((Bool.and_eq_true_iff.mp (Bool.and_eq_true_iff.mp WmPart1).1).2) (.cons h0 (.cons h1 (.cons h2 .nil)))
    · cases a2
      · have h2 : (Ar.tru false).ok 0 (.bool false) := rfl
        exact fin ((Bool.and_eq_true_iff.mp WmPart4).2) (.cons h0 (.cons h1 (.cons h2 .nil)))
      · have h2 : (Ar.tru true).ok 0 (.bool true) := rfl
        exact fin ((Bool.and_eq_true_iff.mp (Bool.and_eq_true_iff.mp WmPart4).1).2) (.cons h0 (.cons h1 (.cons h2 .nil)))
  · rcases WmCover1 a1 b1 with ⟨q1, h1⟩ | ⟨q1, h1⟩
    · cases a2
      · have h2 : (Ar.tru false).ok 0 (.bool false) := rfl
        exact fin ((Bool.and_eq_true_iff.mp WmPart0).2) (.cons h0 (.cons h1 (.cons h2 .nil)))
      · have h2 : (Ar.tru true).ok 0 (.bool true) := rfl
        exact fin ((Bool.and_eq_true_iff.mp (Bool.and_eq_true_iff.mp WmPart0).1).2) (.cons h0 (.cons h1 (.cons h2 .nil)))
    · cases a2
      · have h2 : (Ar.tru false).ok 0 (.bool false) := rfl
        exact fin ((Bool.and_eq_true_iff.mp WmPart3).2) (.cons h0 (.cons h1 (.cons h2 .nil)))
      · have h2 : (Ar.tru true).ok 0 (.bool true) := rfl
        exact fin ((Bool.and_eq_true_iff.mp (Bool.and_eq_true_iff.mp WmPart3).1).2) (.cons h0 (.cons h1 (.cons h2 .nil)))
end Go.Proofs.YtejdaljcplbaeaaGreatDoor
