/- WantsTypes: all cases joined. -/
import Derived.Test.YtejdaljcplbaeaaGreatDoorWtaa
import Derived.Test.YtejdaljcplbaeaaGreatDoorWtab
namespace Go.Proofs.YtejdaljcplbaeaaGreatDoor
open Go Go.Proofs Go.Proofs.YtejdaljcplbaeaaGreatDoor.Ex
set_option linter.unusedVariables false
theorem WtCover0 (x : Int) (h : 0 ≤ x ∧ x ≤ 255) : (∃ q, (Ar.num .u8 18 0 0 14).ok q (.int .u8 x)) ∨ (∃ q, (Ar.num .u8 18 1 0 14).ok q (.int .u8 x)) ∨ (∃ q, (Ar.num .u8 18 2 0 14).ok q (.int .u8 x)) ∨ (∃ q, (Ar.num .u8 18 3 0 14).ok q (.int .u8 x)) ∨ (∃ q, (Ar.num .u8 18 4 0 13).ok q (.int .u8 x)) ∨ (∃ q, (Ar.num .u8 18 5 0 13).ok q (.int .u8 x)) ∨ (∃ q, (Ar.num .u8 18 6 0 13).ok q (.int .u8 x)) ∨ (∃ q, (Ar.num .u8 18 7 0 13).ok q (.int .u8 x)) ∨ (∃ q, (Ar.num .u8 18 8 0 13).ok q (.int .u8 x)) ∨ (∃ q, (Ar.num .u8 18 9 0 13).ok q (.int .u8 x)) ∨ (∃ q, (Ar.num .u8 18 10 0 13).ok q (.int .u8 x)) ∨ (∃ q, (Ar.num .u8 18 11 0 13).ok q (.int .u8 x)) ∨ (∃ q, (Ar.num .u8 18 12 0 13).ok q (.int .u8 x)) ∨ (∃ q, (Ar.num .u8 18 13 0 13).ok q (.int .u8 x)) ∨ (∃ q, (Ar.num .u8 18 14 0 13).ok q (.int .u8 x)) ∨ (∃ q, (Ar.num .u8 18 15 0 13).ok q (.int .u8 x)) ∨ (∃ q, (Ar.num .u8 18 16 0 13).ok q (.int .u8 x)) ∨ (∃ q, (Ar.num .u8 18 17 0 13).ok q (.int .u8 x)) := by
  rcases (by omega : x % 18 = 0 ∨ x % 18 = 1 ∨ x % 18 = 2 ∨ x % 18 = 3 ∨ x % 18 = 4 ∨ x % 18 = 5 ∨ x % 18 = 6 ∨ x % 18 = 7 ∨ x % 18 = 8 ∨ x % 18 = 9 ∨ x % 18 = 10 ∨ x % 18 = 11 ∨ x % 18 = 12 ∨ x % 18 = 13 ∨ x % 18 = 14 ∨ x % 18 = 15 ∨ x % 18 = 16 ∨ x % 18 = 17) with k | k | k | k | k | k | k | k | k | k | k | k | k | k | k | k | k | k
  · exact .inl ⟨x / 18, by omega, by omega, congrArg (Value.int _) (by omega)⟩
  · exact .inr (.inl ⟨x / 18, by omega, by omega, congrArg (Value.int _) (by omega)⟩)
  · exact .inr (.inr (.inl ⟨x / 18, by omega, by omega, congrArg (Value.int _) (by omega)⟩))
  · exact .inr (.inr (.inr (.inl ⟨x / 18, by omega, by omega, congrArg (Value.int _) (by omega)⟩)))
  · exact .inr (.inr (.inr (.inr (.inl ⟨x / 18, by omega, by omega, congrArg (Value.int _) (by omega)⟩))))
  · exact .inr (.inr (.inr (.inr (.inr (.inl ⟨x / 18, by omega, by omega, congrArg (Value.int _) (by omega)⟩)))))
  · exact .inr (.inr (.inr (.inr (.inr (.inr (.inl ⟨x / 18, by omega, by omega, congrArg (Value.int _) (by omega)⟩))))))
  · exact .inr (.inr (.inr (.inr (.inr (.inr (.inr (.inl ⟨x / 18, by omega, by omega, congrArg (Value.int _) (by omega)⟩)))))))
  · exact .inr (.inr (.inr (.inr (.inr (.inr (.inr (.inr (.inl ⟨x / 18, by omega, by omega, congrArg (Value.int _) (by omega)⟩))))))))
  · exact .inr (.inr (.inr (.inr (.inr (.inr (.inr (.inr (.inr (.inl ⟨x / 18, by omega, by omega, congrArg (Value.int _) (by omega)⟩)))))))))
  · exact .inr (.inr (.inr (.inr (.inr (.inr (.inr (.inr (.inr (.inr (.inl ⟨x / 18, by omega, by omega, congrArg (Value.int _) (by omega)⟩))))))))))
  · exact .inr (.inr (.inr (.inr (.inr (.inr (.inr (.inr (.inr (.inr (.inr (.inl ⟨x / 18, by omega, by omega, congrArg (Value.int _) (by omega)⟩)))))))))))
  · exact .inr (.inr (.inr (.inr (.inr (.inr (.inr (.inr (.inr (.inr (.inr (.inr (.inl ⟨x / 18, by omega, by omega, congrArg (Value.int _) (by omega)⟩))))))))))))
  · exact .inr (.inr (.inr (.inr (.inr (.inr (.inr (.inr (.inr (.inr (.inr (.inr (.inr (.inl ⟨x / 18, by omega, by omega, congrArg (Value.int _) (by omega)⟩)))))))))))))
  · exact .inr (.inr (.inr (.inr (.inr (.inr (.inr (.inr (.inr (.inr (.inr (.inr (.inr (.inr (.inl ⟨x / 18, by omega, by omega, congrArg (Value.int _) (by omega)⟩))))))))))))))
  · exact .inr (.inr (.inr (.inr (.inr (.inr (.inr (.inr (.inr (.inr (.inr (.inr (.inr (.inr (.inr (.inl ⟨x / 18, by omega, by omega, congrArg (Value.int _) (by omega)⟩)))))))))))))))
  · exact .inr (.inr (.inr (.inr (.inr (.inr (.inr (.inr (.inr (.inr (.inr (.inr (.inr (.inr (.inr (.inr (.inl ⟨x / 18, by omega, by omega, congrArg (Value.int _) (by omega)⟩))))))))))))))))
  · exact .inr (.inr (.inr (.inr (.inr (.inr (.inr (.inr (.inr (.inr (.inr (.inr (.inr (.inr (.inr (.inr (.inr (⟨x / 18, by omega, by omega, congrArg (Value.int _) (by omega)⟩)))))))))))))))))
theorem Wt_all (a0 : Int) (w0 : (Lit.int .u8 a0).wf = true) (W : World)  :
    Calls Tryz.prog 9 #[.int .u8 a0] W fun e w' => e = .returned (.bool true) ∧ RowKit.Below W.heap.size W w' := by
  have b0 : 0 ≤ a0 ∧ a0 ≤ 255 := by simp [Lit.wf, IntKind.min, IntKind.max, IntKind.signed, IntKind.bits] at w0; omega
  have fin : ∀ {ars : List Ar} {qs : List Int}, caseOk Tryz.prog 231 206 9 .nil ars = true → ArsOk ars qs [.int .u8 a0] → Calls Tryz.prog 9 #[.int .u8 a0] W fun e w' => e = .returned (.bool true) ∧ RowKit.Below W.heap.size W w' := fun h ha =>
    case_law known Tryz.func9 rfl (by kernel_rfl) h ha (op := fun i => ([.int .u8 a0] : List Value)[i]?.getD default) (fun i v hv => by rw [hv]; rfl) (fun {g v} hg => by rw [Tr.get_nil] at hg; cases hg)
  rcases WtCover0 a0 b0 with ⟨q0, h0⟩ | ⟨q0, h0⟩ | ⟨q0, h0⟩ | ⟨q0, h0⟩ | ⟨q0, h0⟩ | ⟨q0, h0⟩ | ⟨q0, h0⟩ | ⟨q0, h0⟩ | ⟨q0, h0⟩ | ⟨q0, h0⟩ | ⟨q0, h0⟩ | ⟨q0, h0⟩ | ⟨q0, h0⟩ | ⟨q0, h0⟩ | ⟨q0, h0⟩ | ⟨q0, h0⟩ | ⟨q0, h0⟩ | ⟨q0, h0⟩
  · exact fin ((Bool.and_eq_true_iff.mp (Bool.and_eq_true_iff.mp (Bool.and_eq_true_iff.mp (Bool.and_eq_true_iff.mp (Bool.and_eq_true_iff.mp (Bool.and_eq_true_iff.mp (Bool.and_eq_true_iff.mp (Bool.and_eq_true_iff.mp WtPart0).1).1).1).1).1).1).1).1) (.cons h0 .nil)
  · exact fin ((Bool.and_eq_true_iff.mp (Bool.and_eq_true_iff.mp (Bool.and_eq_true_iff.mp (Bool.and_eq_true_iff.mp (Bool.and_eq_true_iff.mp (Bool.and_eq_true_iff.mp (Bool.and_eq_true_iff.mp (Bool.and_eq_true_iff.mp WtPart0).1).1).1).1).1).1).1).2) (.cons h0 .nil)
  · exact fin ((Bool.and_eq_true_iff.mp (Bool.and_eq_true_iff.mp (Bool.and_eq_true_iff.mp (Bool.and_eq_true_iff.mp (Bool.and_eq_true_iff.mp (Bool.and_eq_true_iff.mp (Bool.and_eq_true_iff.mp WtPart0).1).1).1).1).1).1).2) (.cons h0 .nil)
  · exact fin ((Bool.and_eq_true_iff.mp (Bool.and_eq_true_iff.mp (Bool.and_eq_true_iff.mp (Bool.and_eq_true_iff.mp (Bool.and_eq_true_iff.mp (Bool.and_eq_true_iff.mp WtPart0).1).1).1).1).1).2) (.cons h0 .nil)
  · exact fin ((Bool.and_eq_true_iff.mp (Bool.and_eq_true_iff.mp (Bool.and_eq_true_iff.mp (Bool.and_eq_true_iff.mp (Bool.and_eq_true_iff.mp WtPart0).1).1).1).1).2) (.cons h0 .nil)
  · exact fin ((Bool.and_eq_true_iff.mp (Bool.and_eq_true_iff.mp (Bool.and_eq_true_iff.mp (Bool.and_eq_true_iff.mp WtPart0).1).1).1).2) (.cons h0 .nil)
  · exact fin ((Bool.and_eq_true_iff.mp (Bool.and_eq_true_iff.mp (Bool.and_eq_true_iff.mp WtPart0).1).1).2) (.cons h0 .nil)
  · exact fin ((Bool.and_eq_true_iff.mp (Bool.and_eq_true_iff.mp WtPart0).1).2) (.cons h0 .nil)
  · exact fin ((Bool.and_eq_true_iff.mp WtPart0).2) (.cons h0 .nil)
  · exact fin ((Bool.and_eq_true_iff.mp (Bool.and_eq_true_iff.mp (Bool.and_eq_true_iff.mp (Bool.and_eq_true_iff.mp (Bool.and_eq_true_iff.mp (Bool.and_eq_true_iff.mp (Bool.and_eq_true_iff.mp (Bool.and_eq_true_iff.mp WtPart1).1).1).1).1).1).1).1).1) (.cons h0 .nil)
  · exact fin ((Bool.and_eq_true_iff.mp (Bool.and_eq_true_iff.mp (Bool.and_eq_true_iff.mp (Bool.and_eq_true_iff.mp (Bool.and_eq_true_iff.mp (Bool.and_eq_true_iff.mp (Bool.and_eq_true_iff.mp (Bool.and_eq_true_iff.mp WtPart1).1).1).1).1).1).1).1).2) (.cons h0 .nil)
  · exact fin ((Bool.and_eq_true_iff.mp (Bool.and_eq_true_iff.mp (Bool.and_eq_true_iff.mp (Bool.and_eq_true_iff.mp (Bool.and_eq_true_iff.mp (Bool.and_eq_true_iff.mp (Bool.and_eq_true_iff.mp WtPart1).1).1).1).1).1).1).2) (.cons h0 .nil)
  · exact fin ((Bool.and_eq_true_iff.mp (Bool.and_eq_true_iff.mp (Bool.and_eq_true_iff.mp (Bool.and_eq_true_iff.mp (Bool.and_eq_true_iff.mp (Bool.and_eq_true_iff.mp WtPart1).1).1).1).1).1).2) (.cons h0 .nil)
  · exact fin ((Bool.and_eq_true_iff.mp (Bool.and_eq_true_iff.mp (Bool.and_eq_true_iff.mp (Bool.and_eq_true_iff.mp (Bool.and_eq_true_iff.mp WtPart1).1).1).1).1).2) (.cons h0 .nil)
  · exact fin ((Bool.and_eq_true_iff.mp (Bool.and_eq_true_iff.mp (Bool.and_eq_true_iff.mp (Bool.and_eq_true_iff.mp WtPart1).1).1).1).2) (.cons h0 .nil)
  · exact fin ((Bool.and_eq_true_iff.mp (Bool.and_eq_true_iff.mp (Bool.and_eq_true_iff.mp WtPart1).1).1).2) (.cons h0 .nil)
  · exact fin ((Bool.and_eq_true_iff.mp (Bool.and_eq_true_iff.mp WtPart1).1).2) (.cons h0 .nil)
  · exact fin ((Bool.and_eq_true_iff.mp WtPart1).2) (.cons h0 .nil)
end Go.Proofs.YtejdaljcplbaeaaGreatDoor
