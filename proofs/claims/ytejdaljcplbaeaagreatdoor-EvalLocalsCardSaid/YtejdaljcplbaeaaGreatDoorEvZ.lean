/- EvalLocals: all cases joined. -/
import Derived.Test.YtejdaljcplbaeaaGreatDoorEvaa
import Derived.Test.YtejdaljcplbaeaaGreatDoorEvab
import Derived.Test.YtejdaljcplbaeaaGreatDoorEvac
import Derived.Test.YtejdaljcplbaeaaGreatDoorEvad
namespace Go.Proofs.YtejdaljcplbaeaaGreatDoor
open Go Go.Proofs Go.Proofs.YtejdaljcplbaeaaGreatDoor.Ex
set_option linter.unusedVariables false
theorem EvCover0 (x : Int) (h : 0 ≤ x ∧ x ≤ 255) : (∃ q, (Ar.num .u8 14 0 0 18).ok q (.int .u8 x)) ∨ (∃ q, (Ar.num .u8 14 1 0 18).ok q (.int .u8 x)) ∨ (∃ q, (Ar.num .u8 14 2 0 18).ok q (.int .u8 x)) ∨ (∃ q, (Ar.num .u8 14 3 0 18).ok q (.int .u8 x)) ∨ (∃ q, (Ar.num .u8 14 4 0 17).ok q (.int .u8 x)) ∨ (∃ q, (Ar.num .u8 14 5 0 17).ok q (.int .u8 x)) ∨ (∃ q, (Ar.num .u8 14 6 0 17).ok q (.int .u8 x)) ∨ (∃ q, (Ar.num .u8 14 7 0 17).ok q (.int .u8 x)) ∨ (∃ q, (Ar.num .u8 14 8 0 17).ok q (.int .u8 x)) ∨ (∃ q, (Ar.num .u8 14 9 0 17).ok q (.int .u8 x)) ∨ (∃ q, (Ar.num .u8 14 10 0 17).ok q (.int .u8 x)) ∨ (∃ q, (Ar.num .u8 14 11 0 17).ok q (.int .u8 x)) ∨ (∃ q, (Ar.num .u8 14 12 0 17).ok q (.int .u8 x)) ∨ (∃ q, (Ar.num .u8 14 13 0 17).ok q (.int .u8 x)) := by
  rcases (by omega : x % 14 = 0 ∨ x % 14 = 1 ∨ x % 14 = 2 ∨ x % 14 = 3 ∨ x % 14 = 4 ∨ x % 14 = 5 ∨ x % 14 = 6 ∨ x % 14 = 7 ∨ x % 14 = 8 ∨ x % 14 = 9 ∨ x % 14 = 10 ∨ x % 14 = 11 ∨ x % 14 = 12 ∨ x % 14 = 13) with k | k | k | k | k | k | k | k | k | k | k | k | k | k
  · exact .inl ⟨x / 14, by omega, by omega, congrArg (Value.int _) (by omega)⟩
  · exact .inr (.inl ⟨x / 14, by omega, by omega, congrArg (Value.int _) (by omega)⟩)
  · exact .inr (.inr (.inl ⟨x / 14, by omega, by omega, congrArg (Value.int _) (by omega)⟩))
  · exact .inr (.inr (.inr (.inl ⟨x / 14, by omega, by omega, congrArg (Value.int _) (by omega)⟩)))
  · exact .inr (.inr (.inr (.inr (.inl ⟨x / 14, by omega, by omega, congrArg (Value.int _) (by omega)⟩))))
  · exact .inr (.inr (.inr (.inr (.inr (.inl ⟨x / 14, by omega, by omega, congrArg (Value.int _) (by omega)⟩)))))
  · exact .inr (.inr (.inr (.inr (.inr (.inr (.inl ⟨x / 14, by omega, by omega, congrArg (Value.int _) (by omega)⟩))))))
  · exact .inr (.inr (.inr (.inr (.inr (.inr (.inr (.inl ⟨x / 14, by omega, by omega, congrArg (Value.int _) (by omega)⟩)))))))
  · exact .inr (.inr (.inr (.inr (.inr (.inr (.inr (.inr (.inl ⟨x / 14, by omega, by omega, congrArg (Value.int _) (by omega)⟩))))))))
  · exact .inr (.inr (.inr (.inr (.inr (.inr (.inr (.inr (.inr (.inl ⟨x / 14, by omega, by omega, congrArg (Value.int _) (by omega)⟩)))))))))
  · exact .inr (.inr (.inr (.inr (.inr (.inr (.inr (.inr (.inr (.inr (.inl ⟨x / 14, by omega, by omega, congrArg (Value.int _) (by omega)⟩))))))))))
  · exact .inr (.inr (.inr (.inr (.inr (.inr (.inr (.inr (.inr (.inr (.inr (.inl ⟨x / 14, by omega, by omega, congrArg (Value.int _) (by omega)⟩)))))))))))
  · exact .inr (.inr (.inr (.inr (.inr (.inr (.inr (.inr (.inr (.inr (.inr (.inr (.inl ⟨x / 14, by omega, by omega, congrArg (Value.int _) (by omega)⟩))))))))))))
  · exact .inr (.inr (.inr (.inr (.inr (.inr (.inr (.inr (.inr (.inr (.inr (.inr (.inr (⟨x / 14, by omega, by omega, congrArg (Value.int _) (by omega)⟩)))))))))))))
theorem EvCover1 (x : Int) (h : (-32768) ≤ x ∧ x ≤ 32767) : (∃ q, (Ar.num .i16 1 0 (-32768) 32767).ok q (.int .i16 x)) := by
  exact ⟨x, by omega, by omega, congrArg (Value.int _) (by omega)⟩
theorem Ev_all (a0 : Int) (w0 : (Lit.int .u8 a0).wf = true) (a1 : Int) (w1 : (Lit.int .i16 a1).wf = true) (W : World)  :
    Calls Tryz.prog 3 #[.int .u8 a0, .int .i16 a1] W fun e w' => e = .returned (.bool true) ∧ RowKit.Below W.heap.size W w' := by
  have b0 : 0 ≤ a0 ∧ a0 ≤ 255 := by simp [Lit.wf, IntKind.min, IntKind.max, IntKind.signed, IntKind.bits] at w0; omega
  have b1 : (-32768) ≤ a1 ∧ a1 ≤ 32767 := by simp [Lit.wf, IntKind.min, IntKind.max, IntKind.signed, IntKind.bits] at w1; omega
  have fin : ∀ {ars : List Ar} {qs : List Int}, caseOk Tryz.prog 231 206 3 .nil ars = true → ArsOk ars qs [.int .u8 a0, .int .i16 a1] → Calls Tryz.prog 3 #[.int .u8 a0, .int .i16 a1] W fun e w' => e = .returned (.bool true) ∧ RowKit.Below W.heap.size W w' := fun h ha =>
    case_law known Tryz.func3 rfl (by kernel_rfl) h ha (op := fun i => ([.int .u8 a0, .int .i16 a1] : List Value)[i]?.getD default) (fun i v hv => by rw [hv]; rfl) (fun {g v} hg => by rw [Tr.get_nil] at hg; cases hg)
  rcases EvCover0 a0 b0 with ⟨q0, h0⟩ | ⟨q0, h0⟩ | ⟨q0, h0⟩ | ⟨q0, h0⟩ | ⟨q0, h0⟩ | ⟨q0, h0⟩ | ⟨q0, h0⟩ | ⟨q0, h0⟩ | ⟨q0, h0⟩ | ⟨q0, h0⟩ | ⟨q0, h0⟩ | ⟨q0, h0⟩ | ⟨q0, h0⟩ | ⟨q0, h0⟩
  · obtain ⟨q1, h1⟩ := EvCover1 a1 b1
    exact fin ((Bool.and_eq_true_iff.mp EvPart0).2) (.cons h0 (.cons h1 .nil))
  · obtain ⟨q1, h1⟩ := EvCover1 a1 b1
    exact fin ((Bool.and_eq_true_iff.mp (Bool.and_eq_true_iff.mp EvPart1).1).2) (.cons h0 (.cons h1 .nil))
  · obtain ⟨q1, h1⟩ := EvCover1 a1 b1
    exact fin ((Bool.and_eq_true_iff.mp EvPart1).2) (.cons h0 (.cons h1 .nil))
  · obtain ⟨q1, h1⟩ := EvCover1 a1 b1
    exact fin ((Bool.and_eq_true_iff.mp EvPart3).2) (.cons h0 (.cons h1 .nil))
  · obtain ⟨q1, h1⟩ := EvCover1 a1 b1
    exact fin ((Bool.and_eq_true_iff.mp EvPart2).2) (.cons h0 (.cons h1 .nil))
  · obtain ⟨q1, h1⟩ := EvCover1 a1 b1
    exact fin ((Bool.and_eq_true_iff.mp (Bool.and_eq_true_iff.mp EvPart3).1).2) (.cons h0 (.cons h1 .nil))
  · obtain ⟨q1, h1⟩ := EvCover1 a1 b1
    exact fin ((Bool.and_eq_true_iff.mp (Bool.and_eq_true_iff.mp (Bool.and_eq_true_iff.mp EvPart3).1).1).2) (.cons h0 (.cons h1 .nil))
  · obtain ⟨q1, h1⟩ := EvCover1 a1 b1
    exact fin ((Bool.and_eq_true_iff.mp (Bool.and_eq_true_iff.mp (Bool.and_eq_true_iff.mp EvPart3).1).1).1) (.cons h0 (.cons h1 .nil))
  · obtain ⟨q1, h1⟩ := EvCover1 a1 b1
    exact fin ((Bool.and_eq_true_iff.mp (Bool.and_eq_true_iff.mp EvPart2).1).2) (.cons h0 (.cons h1 .nil))
  · obtain ⟨q1, h1⟩ := EvCover1 a1 b1
    exact fin ((Bool.and_eq_true_iff.mp (Bool.and_eq_true_iff.mp EvPart0).1).2) (.cons h0 (.cons h1 .nil))
  · obtain ⟨q1, h1⟩ := EvCover1 a1 b1
    exact fin ((Bool.and_eq_true_iff.mp (Bool.and_eq_true_iff.mp (Bool.and_eq_true_iff.mp EvPart1).1).1).2) (.cons h0 (.cons h1 .nil))
  · obtain ⟨q1, h1⟩ := EvCover1 a1 b1
    exact fin ((Bool.and_eq_true_iff.mp (Bool.and_eq_true_iff.mp EvPart2).1).1) (.cons h0 (.cons h1 .nil))
  · obtain ⟨q1, h1⟩ := EvCover1 a1 b1
    exact fin ((Bool.and_eq_true_iff.mp (Bool.and_eq_true_iff.mp (Bool.and_eq_true_iff.mp EvPart1).1).1).1) (.cons h0 (.cons h1 .nil))
  · obtain ⟨q1, h1⟩ := EvCover1 a1 b1
    exact fin ((Bool.and_eq_true_iff.mp (Bool.and_eq_true_iff.mp EvPart0).1).1) (.cons h0 (.cons h1 .nil))
end Go.Proofs.YtejdaljcplbaeaaGreatDoor
