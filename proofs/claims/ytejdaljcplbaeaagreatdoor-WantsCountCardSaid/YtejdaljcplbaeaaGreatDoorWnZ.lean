/- WantsCount: all cases joined. -/
import Derived.Test.YtejdaljcplbaeaaGreatDoorWnaa
import Derived.Test.YtejdaljcplbaeaaGreatDoorWnab
import Derived.Test.YtejdaljcplbaeaaGreatDoorWnac
import Derived.Test.YtejdaljcplbaeaaGreatDoorWnad
import Derived.Test.YtejdaljcplbaeaaGreatDoorWnae
import Derived.Test.YtejdaljcplbaeaaGreatDoorWnaf
import Derived.Test.YtejdaljcplbaeaaGreatDoorWnag
import Derived.Test.YtejdaljcplbaeaaGreatDoorWnah
namespace Go.Proofs.YtejdaljcplbaeaaGreatDoor
open Go Go.Proofs Go.Proofs.YtejdaljcplbaeaaGreatDoor.Ex
set_option linter.unusedVariables false
theorem WnCover0 (x : Int) (h : (-128) ≤ x ∧ x ≤ 127) : (∃ q, (Ar.num .i8 0 0).ok (0, 0) q (.int .i8 x)) ∨ (∃ q, (Ar.num .i8 0 1).ok (0, 0) q (.int .i8 x)) ∨ (∃ q, (Ar.num .i8 0 2).ok (0, 0) q (.int .i8 x)) ∨ (∃ q, (Ar.num .i8 0 3).ok (0, 0) q (.int .i8 x)) ∨ (∃ q, (Ar.num .i8 0 4).ok (0, 0) q (.int .i8 x)) ∨ (∃ q, (Ar.num .i8 0 5).ok (0, 0) q (.int .i8 x)) ∨ (∃ q, (Ar.num .i8 0 6).ok (0, 0) q (.int .i8 x)) ∨ (∃ q, (Ar.num .i8 0 7).ok (0, 0) q (.int .i8 x)) ∨ (∃ q, (Ar.num .i8 0 8).ok (0, 0) q (.int .i8 x)) ∨ (∃ q, (Ar.num .i8 0 9).ok (0, 0) q (.int .i8 x)) ∨ (∃ q, (Ar.num .i8 0 10).ok (0, 0) q (.int .i8 x)) ∨ (∃ q, (Ar.num .i8 0 11).ok (0, 0) q (.int .i8 x)) ∨ (∃ q, (Ar.num .i8 0 12).ok (0, 0) q (.int .i8 x)) ∨ (∃ q, (Ar.num .i8 0 13).ok (0, 0) q (.int .i8 x)) ∨ (∃ q, (Ar.num .i8 0 14).ok (0, 0) q (.int .i8 x)) ∨ (∃ q, (Ar.num .i8 0 15).ok (0, 0) q (.int .i8 x)) ∨ (∃ q, (Ar.num .i8 0 16).ok (0, 0) q (.int .i8 x)) ∨ (∃ q, (Ar.num .i8 0 17).ok (0, 0) q (.int .i8 x)) ∨ (∃ q, (Ar.num .i8 0 18).ok (0, 0) q (.int .i8 x)) ∨ (∃ q, (Ar.num .i8 0 19).ok (0, 0) q (.int .i8 x)) ∨ (∃ q, (Ar.num .i8 0 20).ok (0, 0) q (.int .i8 x)) ∨ (∃ q, (Ar.num .i8 1 0).ok ((-128), (-1)) q (.int .i8 x)) ∨ (∃ q, (Ar.num .i8 1 0).ok (21, 127) q (.int .i8 x)) := by
  rcases (by omega : x = 0 ∨ x = 1 ∨ x = 2 ∨ x = 3 ∨ x = 4 ∨ x = 5 ∨ x = 6 ∨ x = 7 ∨ x = 8 ∨ x = 9 ∨ x = 10 ∨ x = 11 ∨ x = 12 ∨ x = 13 ∨ x = 14 ∨ x = 15 ∨ x = 16 ∨ x = 17 ∨ x = 18 ∨ x = 19 ∨ x = 20 ∨ (-128) ≤ x ∧ x ≤ (-1) ∨ 21 ≤ x ∧ x ≤ 127) with k | k | k | k | k | k | k | k | k | k | k | k | k | k | k | k | k | k | k | k | k | k | k
  · exact .inl ⟨0, ⟨by simp only; omega, by simp only; omega⟩, congrArg (Value.int _) (by omega)⟩
  · exact .inr (.inl ⟨0, ⟨by simp only; omega, by simp only; omega⟩, congrArg (Value.int _) (by omega)⟩)
  · exact .inr (.inr (.inl ⟨0, ⟨by simp only; omega, by simp only; omega⟩, congrArg (Value.int _) (by omega)⟩))
  · exact .inr (.inr (.inr (.inl ⟨0, ⟨by simp only; omega, by simp only; omega⟩, congrArg (Value.int _) (by omega)⟩)))
  · exact .inr (.inr (.inr (.inr (.inl ⟨0, ⟨by simp only; omega, by simp only; omega⟩, congrArg (Value.int _) (by omega)⟩))))
  · exact .inr (.inr (.inr (.inr (.inr (.inl ⟨0, ⟨by simp only; omega, by simp only; omega⟩, congrArg (Value.int _) (by omega)⟩)))))
  · exact .inr (.inr (.inr (.inr (.inr (.inr (.inl ⟨0, ⟨by simp only; omega, by simp only; omega⟩, congrArg (Value.int _) (by omega)⟩))))))
  · exact .inr (.inr (.inr (.inr (.inr (.inr (.inr (.inl ⟨0, ⟨by simp only; omega, by simp only; omega⟩, congrArg (Value.int _) (by omega)⟩)))))))
  · exact .inr (.inr (.inr (.inr (.inr (.inr (.inr (.inr (.inl ⟨0, ⟨by simp only; omega, by simp only; omega⟩, congrArg (Value.int _) (by omega)⟩))))))))
  · exact .inr (.inr (.inr (.inr (.inr (.inr (.inr (.inr (.inr (.inl ⟨0, ⟨by simp only; omega, by simp only; omega⟩, congrArg (Value.int _) (by omega)⟩)))))))))
  · exact .inr (.inr (.inr (.inr (.inr (.inr (.inr (.inr (.inr (.inr (.inl ⟨0, ⟨by simp only; omega, by simp only; omega⟩, congrArg (Value.int _) (by omega)⟩))))))))))
  · exact .inr (.inr (.inr (.inr (.inr (.inr (.inr (.inr (.inr (.inr (.inr (.inl ⟨0, ⟨by simp only; omega, by simp only; omega⟩, congrArg (Value.int _) (by omega)⟩)))))))))))
  · exact .inr (.inr (.inr (.inr (.inr (.inr (.inr (.inr (.inr (.inr (.inr (.inr (.inl ⟨0, ⟨by simp only; omega, by simp only; omega⟩, congrArg (Value.int _) (by omega)⟩))))))))))))
  · exact .inr (.inr (.inr (.inr (.inr (.inr (.inr (.inr (.inr (.inr (.inr (.inr (.inr (.inl ⟨0, ⟨by simp only; omega, by simp only; omega⟩, congrArg (Value.int _) (by omega)⟩)))))))))))))
  · exact .inr (.inr (.inr (.inr (.inr (.inr (.inr (.inr (.inr (.inr (.inr (.inr (.inr (.inr (.inl ⟨0, ⟨by simp only; omega, by simp only; omega⟩, congrArg (Value.int _) (by omega)⟩))))))))))))))
  · exact .inr (.inr (.inr (.inr (.inr (.inr (.inr (.inr (.inr (.inr (.inr (.inr (.inr (.inr (.inr (.inl ⟨0, ⟨by simp only; omega, by simp only; omega⟩, congrArg (Value.int _) (by omega)⟩)))))))))))))))
  · exact .inr (.inr (.inr (.inr (.inr (.inr (.inr (.inr (.inr (.inr (.inr (.inr (.inr (.inr (.inr (.inr (.inl ⟨0, ⟨by simp only; omega, by simp only; omega⟩, congrArg (Value.int _) (by omega)⟩))))))))))))))))
  · exact .inr (.inr (.inr (.inr (.inr (.inr (.inr (.inr (.inr (.inr (.inr (.inr (.inr (.inr (.inr (.inr (.inr (.inl ⟨0, ⟨by simp only; omega, by simp only; omega⟩, congrArg (Value.int _) (by omega)⟩)))))))))))))))))
  · exact .inr (.inr (.inr (.inr (.inr (.inr (.inr (.inr (.inr (.inr (.inr (.inr (.inr (.inr (.inr (.inr (.inr (.inr (.inl ⟨0, ⟨by simp only; omega, by simp only; omega⟩, congrArg (Value.int _) (by omega)⟩))))))))))))))))))
  · exact .inr (.inr (.inr (.inr (.inr (.inr (.inr (.inr (.inr (.inr (.inr (.inr (.inr (.inr (.inr (.inr (.inr (.inr (.inr (.inl ⟨0, ⟨by simp only; omega, by simp only; omega⟩, congrArg (Value.int _) (by omega)⟩)))))))))))))))))))
  · exact .inr (.inr (.inr (.inr (.inr (.inr (.inr (.inr (.inr (.inr (.inr (.inr (.inr (.inr (.inr (.inr (.inr (.inr (.inr (.inr (.inl ⟨0, ⟨by simp only; omega, by simp only; omega⟩, congrArg (Value.int _) (by omega)⟩))))))))))))))))))))
  · exact .inr (.inr (.inr (.inr (.inr (.inr (.inr (.inr (.inr (.inr (.inr (.inr (.inr (.inr (.inr (.inr (.inr (.inr (.inr (.inr (.inr (.inl ⟨x, ⟨by simp only; omega, by simp only; omega⟩, congrArg (Value.int _) (by omega)⟩)))))))))))))))))))))
  · exact .inr (.inr (.inr (.inr (.inr (.inr (.inr (.inr (.inr (.inr (.inr (.inr (.inr (.inr (.inr (.inr (.inr (.inr (.inr (.inr (.inr (.inr (⟨x, ⟨by simp only; omega, by simp only; omega⟩, congrArg (Value.int _) (by omega)⟩))))))))))))))))))))))
theorem WnCover1 (x : Int) (h : 0 ≤ x ∧ x ≤ 65535) : (∃ q, (Ar.num .u16 0 0).ok (0, 0) q (.int .u16 x)) ∨ (∃ q, (Ar.num .u16 1 0).ok (1, 65535) q (.int .u16 x)) := by
  rcases (by omega : x = 0 ∨ 1 ≤ x ∧ x ≤ 65535) with k | k
  · exact .inl ⟨0, ⟨by simp only; omega, by simp only; omega⟩, congrArg (Value.int _) (by omega)⟩
  · exact .inr (⟨x, ⟨by simp only; omega, by simp only; omega⟩, congrArg (Value.int _) (by omega)⟩)
theorem Wn_all (a0 : Int) (w0 : (Lit.int .i8 a0).wf = true) (a1 : Int) (w1 : (Lit.int .u16 a1).wf = true) (W : World)  :
    Calls Tryz.prog 4 #[.int .i8 a0, .int .u16 a1] W fun e w' => e = .returned (.bool true) ∧ RowKit.Below W.heap.size W w' := by
  have b0 : (-128) ≤ a0 ∧ a0 ≤ 127 := by simp [Lit.wf, IntKind.min, IntKind.max, IntKind.signed, IntKind.bits] at w0; omega
  have b1 : 0 ≤ a1 ∧ a1 ≤ 65535 := by simp [Lit.wf, IntKind.min, IntKind.max, IntKind.signed, IntKind.bits] at w1; omega
  have fin : ∀ {bs : List (Int × Int)} {ars : List Ar} {qs : List Int}, caseOk Tryz.prog 231 206 4 .nil bs ars = true → ArsOk bs ars qs [.int .i8 a0, .int .u16 a1] → Calls Tryz.prog 4 #[.int .i8 a0, .int .u16 a1] W fun e w' => e = .returned (.bool true) ∧ RowKit.Below W.heap.size W w' := fun {bs ars qs} h ha =>
    case_law known Tryz.func4 rfl (by kernel_rfl) h ha (op := fun i => ([.int .i8 a0, .int .u16 a1] : List Value)[i]?.getD default) (fun i v hv => by rw [hv]; rfl) (fun {g v} hg => by rw [Tr.get_nil] at hg; cases hg)
  rcases WnCover0 a0 b0 with ⟨q0, h0⟩ | ⟨q0, h0⟩ | ⟨q0, h0⟩ | ⟨q0, h0⟩ | ⟨q0, h0⟩ | ⟨q0, h0⟩ | ⟨q0, h0⟩ | ⟨q0, h0⟩ | ⟨q0, h0⟩ | ⟨q0, h0⟩ | ⟨q0, h0⟩ | ⟨q0, h0⟩ | ⟨q0, h0⟩ | ⟨q0, h0⟩ | ⟨q0, h0⟩ | ⟨q0, h0⟩ | ⟨q0, h0⟩ | ⟨q0, h0⟩ | ⟨q0, h0⟩ | ⟨q0, h0⟩ | ⟨q0, h0⟩ | ⟨q0, h0⟩ | ⟨q0, h0⟩
  · rcases WnCover1 a1 b1 with ⟨q1, h1⟩ | ⟨q1, h1⟩
    · exact fin ((Bool.and_eq_true_iff.mp (Bool.and_eq_true_iff.mp (Bool.and_eq_true_iff.mp (Bool.and_eq_true_iff.mp (Bool.and_eq_true_iff.mp WnPart0).1).1).1).1).2) (.cons h0 (.cons h1 .nil))
    · exact fin ((Bool.and_eq_true_iff.mp (Bool.and_eq_true_iff.mp (Bool.and_eq_true_iff.mp (Bool.and_eq_true_iff.mp (Bool.and_eq_true_iff.mp WnPart4).1).1).1).1).2) (.cons h0 (.cons h1 .nil))
  · rcases WnCover1 a1 b1 with ⟨q1, h1⟩ | ⟨q1, h1⟩
    · exact fin ((Bool.and_eq_true_iff.mp (Bool.and_eq_true_iff.mp (Bool.and_eq_true_iff.mp (Bool.and_eq_true_iff.mp WnPart0).1).1).1).2) (.cons h0 (.cons h1 .nil))
    · exact fin ((Bool.and_eq_true_iff.mp (Bool.and_eq_true_iff.mp (Bool.and_eq_true_iff.mp (Bool.and_eq_true_iff.mp WnPart4).1).1).1).2) (.cons h0 (.cons h1 .nil))
  · rcases WnCover1 a1 b1 with ⟨q1, h1⟩ | ⟨q1, h1⟩
    · exact fin ((Bool.and_eq_true_iff.mp (Bool.and_eq_true_iff.mp (Bool.and_eq_true_iff.mp WnPart0).1).1).2) (.cons h0 (.cons h1 .nil))
    · exact fin ((Bool.and_eq_true_iff.mp (Bool.and_eq_true_iff.mp (Bool.and_eq_true_iff.mp WnPart4).1).1).2) (.cons h0 (.cons h1 .nil))
  · rcases WnCover1 a1 b1 with ⟨q1, h1⟩ | ⟨q1, h1⟩
    · exact fin ((Bool.and_eq_true_iff.mp (Bool.and_eq_true_iff.mp WnPart0).1).2) (.cons h0 (.cons h1 .nil))
    · exact fin ((Bool.and_eq_true_iff.mp (Bool.and_eq_true_iff.mp WnPart4).1).2) (.cons h0 (.cons h1 .nil))
  · rcases WnCover1 a1 b1 with ⟨q1, h1⟩ | ⟨q1, h1⟩
    · exact fin ((Bool.and_eq_true_iff.mp (Bool.and_eq_true_iff.mp (Bool.and_eq_true_iff.mp (Bool.and_eq_true_iff.mp WnPart1).1).1).1).2) (.cons h0 (.cons h1 .nil))
    · exact fin ((Bool.and_eq_true_iff.mp (Bool.and_eq_true_iff.mp (Bool.and_eq_true_iff.mp (Bool.and_eq_true_iff.mp WnPart5).1).1).1).2) (.cons h0 (.cons h1 .nil))
  · rcases WnCover1 a1 b1 with ⟨q1, h1⟩ | ⟨q1, h1⟩
    · exact fin ((Bool.and_eq_true_iff.mp (Bool.and_eq_true_iff.mp (Bool.and_eq_true_iff.mp WnPart1).1).1).2) (.cons h0 (.cons h1 .nil))
    · exact fin ((Bool.and_eq_true_iff.mp (Bool.and_eq_true_iff.mp (Bool.and_eq_true_iff.mp WnPart5).1).1).2) (.cons h0 (.cons h1 .nil))
  · rcases WnCover1 a1 b1 with ⟨q1, h1⟩ | ⟨q1, h1⟩
    · exact fin ((Bool.and_eq_true_iff.mp (Bool.and_eq_true_iff.mp WnPart1).1).2) (.cons h0 (.cons h1 .nil))
    · exact fin ((Bool.and_eq_true_iff.mp (Bool.and_eq_true_iff.mp WnPart5).1).2) (.cons h0 (.cons h1 .nil))
  · rcases WnCover1 a1 b1 with ⟨q1, h1⟩ | ⟨q1, h1⟩
    · exact fin ((Bool.and_eq_true_iff.mp (Bool.and_eq_true_iff.mp WnPart2).1).2) (.cons h0 (.cons h1 .nil))
    · exact fin ((Bool.and_eq_true_iff.mp (Bool.and_eq_true_iff.mp WnPart6).1).2) (.cons h0 (.cons h1 .nil))
  · rcases WnCover1 a1 b1 with ⟨q1, h1⟩ | ⟨q1, h1⟩
    · exact fin ((Bool.and_eq_true_iff.mp WnPart2).2) (.cons h0 (.cons h1 .nil))
    · exact fin ((Bool.and_eq_true_iff.mp WnPart6).2) (.cons h0 (.cons h1 .nil))
  · rcases WnCover1 a1 b1 with ⟨q1, h1⟩ | ⟨q1, h1⟩
    · exact fin ((Bool.and_eq_true_iff.mp WnPart3).2) (.cons h0 (.cons h1 .nil))
    · exact fin ((Bool.and_eq_true_iff.mp WnPart7).2) (.cons h0 (.cons h1 .nil))
  · rcases WnCover1 a1 b1 with ⟨q1, h1⟩ | ⟨q1, h1⟩
    · exact fin ((Bool.and_eq_true_iff.mp (Bool.and_eq_true_iff.mp WnPart3).1).2) (.cons h0 (.cons h1 .nil))
    · exact fin ((Bool.and_eq_true_iff.mp (Bool.and_eq_true_iff.mp WnPart7).1).2) (.cons h0 (.cons h1 .nil))
  · rcases WnCover1 a1 b1 with ⟨q1, h1⟩ | ⟨q1, h1⟩
    · exact fin ((Bool.and_eq_true_iff.mp (Bool.and_eq_true_iff.mp (Bool.and_eq_true_iff.mp WnPart3).1).1).2) (.cons h0 (.cons h1 .nil))
    · exact fin ((Bool.and_eq_true_iff.mp (Bool.and_eq_true_iff.mp (Bool.and_eq_true_iff.mp WnPart7).1).1).2) (.cons h0 (.cons h1 .nil))
  · rcases WnCover1 a1 b1 with ⟨q1, h1⟩ | ⟨q1, h1⟩
    · exact fin ((Bool.and_eq_true_iff.mp (Bool.and_eq_true_iff.mp (Bool.and_eq_true_iff.mp (Bool.and_eq_true_iff.mp WnPart3).1).1).1).2) (.cons h0 (.cons h1 .nil))
    · exact fin ((Bool.and_eq_true_iff.mp (Bool.and_eq_true_iff.mp (Bool.and_eq_true_iff.mp (Bool.and_eq_true_iff.mp WnPart7).1).1).1).2) (.cons h0 (.cons h1 .nil))
  · rcases WnCover1 a1 b1 with ⟨q1, h1⟩ | ⟨q1, h1⟩
    · exact fin ((Bool.and_eq_true_iff.mp (Bool.and_eq_true_iff.mp (Bool.and_eq_true_iff.mp (Bool.and_eq_true_iff.mp WnPart3).1).1).1).1) (.cons h0 (.cons h1 .nil))
    · exact fin ((Bool.and_eq_true_iff.mp (Bool.and_eq_true_iff.mp (Bool.and_eq_true_iff.mp (Bool.and_eq_true_iff.mp WnPart7).1).1).1).1) (.cons h0 (.cons h1 .nil))
  · rcases WnCover1 a1 b1 with ⟨q1, h1⟩ | ⟨q1, h1⟩
    · exact fin ((Bool.and_eq_true_iff.mp (Bool.and_eq_true_iff.mp (Bool.and_eq_true_iff.mp WnPart2).1).1).2) (.cons h0 (.cons h1 .nil))
    · exact fin ((Bool.and_eq_true_iff.mp (Bool.and_eq_true_iff.mp (Bool.and_eq_true_iff.mp WnPart6).1).1).2) (.cons h0 (.cons h1 .nil))
  · rcases WnCover1 a1 b1 with ⟨q1, h1⟩ | ⟨q1, h1⟩
    · exact fin ((Bool.and_eq_true_iff.mp (Bool.and_eq_true_iff.mp (Bool.and_eq_true_iff.mp (Bool.and_eq_true_iff.mp WnPart2).1).1).1).2) (.cons h0 (.cons h1 .nil))
    · exact fin ((Bool.and_eq_true_iff.mp (Bool.and_eq_true_iff.mp (Bool.and_eq_true_iff.mp (Bool.and_eq_true_iff.mp WnPart6).1).1).1).2) (.cons h0 (.cons h1 .nil))
  · rcases WnCover1 a1 b1 with ⟨q1, h1⟩ | ⟨q1, h1⟩
    · exact fin ((Bool.and_eq_true_iff.mp (Bool.and_eq_true_iff.mp (Bool.and_eq_true_iff.mp (Bool.and_eq_true_iff.mp (Bool.and_eq_true_iff.mp WnPart1).1).1).1).1).2) (.cons h0 (.cons h1 .nil))
    · exact fin ((Bool.and_eq_true_iff.mp (Bool.and_eq_true_iff.mp (Bool.and_eq_true_iff.mp (Bool.and_eq_true_iff.mp (Bool.and_eq_true_iff.mp WnPart5).1).1).1).1).2) (.cons h0 (.cons h1 .nil))
  · rcases WnCover1 a1 b1 with ⟨q1, h1⟩ | ⟨q1, h1⟩
    · exact fin ((Bool.and_eq_true_iff.mp (Bool.and_eq_true_iff.mp (Bool.and_eq_true_iff.mp (Bool.and_eq_true_iff.mp (Bool.and_eq_true_iff.mp (Bool.and_eq_true_iff.mp WnPart0).1).1).1).1).1).2) (.cons h0 (.cons h1 .nil))
    · exact fin ((Bool.and_eq_true_iff.mp (Bool.and_eq_true_iff.mp (Bool.and_eq_true_iff.mp (Bool.and_eq_true_iff.mp (Bool.and_eq_true_iff.mp (Bool.and_eq_true_iff.mp WnPart4).1).1).1).1).1).2) (.cons h0 (.cons h1 .nil))
  · rcases WnCover1 a1 b1 with ⟨q1, h1⟩ | ⟨q1, h1⟩
    · exact fin ((Bool.and_eq_true_iff.mp (Bool.and_eq_true_iff.mp (Bool.and_eq_true_iff.mp (Bool.and_eq_true_iff.mp WnPart2).1).1).1).1) (.cons h0 (.cons h1 .nil))
    · exact fin ((Bool.and_eq_true_iff.mp (Bool.and_eq_true_iff.mp (Bool.and_eq_true_iff.mp (Bool.and_eq_true_iff.mp WnPart6).1).1).1).1) (.cons h0 (.cons h1 .nil))
  · rcases WnCover1 a1 b1 with ⟨q1, h1⟩ | ⟨q1, h1⟩
    · exact fin ((Bool.and_eq_true_iff.mp (Bool.and_eq_true_iff.mp (Bool.and_eq_true_iff.mp (Bool.and_eq_true_iff.mp (Bool.and_eq_true_iff.mp WnPart1).1).1).1).1).1) (.cons h0 (.cons h1 .nil))
    · exact fin ((Bool.and_eq_true_iff.mp (Bool.and_eq_true_iff.mp (Bool.and_eq_true_iff.mp (Bool.and_eq_true_iff.mp (Bool.and_eq_true_iff.mp WnPart5).1).1).1).1).1) (.cons h0 (.cons h1 .nil))
  · rcases WnCover1 a1 b1 with ⟨q1, h1⟩ | ⟨q1, h1⟩
    · exact fin ((Bool.and_eq_true_iff.mp (Bool.and_eq_true_iff.mp (Bool.and_eq_true_iff.mp (Bool.and_eq_true_iff.mp (Bool.and_eq_true_iff.mp (Bool.and_eq_true_iff.mp WnPart0).1).1).1).1).1).1) (.cons h0 (.cons h1 .nil))
    · exact fin ((Bool.and_eq_true_iff.mp (Bool.and_eq_true_iff.mp (Bool.and_eq_true_iff.mp (Bool.and_eq_true_iff.mp (Bool.and_eq_true_iff.mp (Bool.and_eq_true_iff.mp WnPart4).1).1).1).1).1).1) (.cons h0 (.cons h1 .nil))
  · rcases WnCover1 a1 b1 with ⟨q1, h1⟩ | ⟨q1, h1⟩
    · exact fin ((Bool.and_eq_true_iff.mp WnPart0).2) (.cons h0 (.cons h1 .nil))
    · exact fin ((Bool.and_eq_true_iff.mp WnPart4).2) (.cons h0 (.cons h1 .nil))
  · rcases WnCover1 a1 b1 with ⟨q1, h1⟩ | ⟨q1, h1⟩
    · exact fin ((Bool.and_eq_true_iff.mp WnPart1).2) (.cons h0 (.cons h1 .nil))
    · exact fin ((Bool.and_eq_true_iff.mp WnPart5).2) (.cons h0 (.cons h1 .nil))
end Go.Proofs.YtejdaljcplbaeaaGreatDoor
