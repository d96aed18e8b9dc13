/- ScriptDown: all cases joined. -/
import Derived.Test.YtlbnfcpdmngjkaaGreatDoorSdaa
import Derived.Test.YtlbnfcpdmngjkaaGreatDoorSdab
import Derived.Test.YtlbnfcpdmngjkaaGreatDoorSdac
import Derived.Test.YtlbnfcpdmngjkaaGreatDoorSdad
import Derived.Test.YtlbnfcpdmngjkaaGreatDoorSdae
import Derived.Test.YtlbnfcpdmngjkaaGreatDoorSdaf
import Derived.Test.YtlbnfcpdmngjkaaGreatDoorSdag
import Derived.Test.YtlbnfcpdmngjkaaGreatDoorSdah
import Derived.Test.YtlbnfcpdmngjkaaGreatDoorSdai
import Derived.Test.YtlbnfcpdmngjkaaGreatDoorSdaj
import Derived.Test.YtlbnfcpdmngjkaaGreatDoorSdak
import Derived.Test.YtlbnfcpdmngjkaaGreatDoorSdal
import Derived.Test.YtlbnfcpdmngjkaaGreatDoorSdam
import Derived.Test.YtlbnfcpdmngjkaaGreatDoorSdan
import Derived.Test.YtlbnfcpdmngjkaaGreatDoorSdao
import Derived.Test.YtlbnfcpdmngjkaaGreatDoorSdap
import Derived.Test.YtlbnfcpdmngjkaaGreatDoorSdaq
import Derived.Test.YtlbnfcpdmngjkaaGreatDoorSdar
import Derived.Test.YtlbnfcpdmngjkaaGreatDoorSnG
namespace Go.Proofs.YtlbnfcpdmngjkaaGreatDoor
open Go Go.Proofs Go.Proofs.YtlbnfcpdmngjkaaGreatDoor.Ex
set_option linter.unusedVariables false
theorem SdCover0 (x : Int) (h : 0 ≤ x ∧ x ≤ 255) : (∃ q, (Ar.num .u8 6 0).ok (0, 42) q (.int .u8 x)) ∨ (∃ q, (Ar.num .u8 6 1).ok (0, 42) q (.int .u8 x)) ∨ (∃ q, (Ar.num .u8 6 2).ok (0, 42) q (.int .u8 x)) ∨ (∃ q, (Ar.num .u8 6 3).ok (0, 42) q (.int .u8 x)) ∨ (∃ q, (Ar.num .u8 6 4).ok (0, 41) q (.int .u8 x)) ∨ (∃ q, (Ar.num .u8 6 5).ok (0, 41) q (.int .u8 x)) := by
  rcases (by omega : x % 6 = 0 ∨ x % 6 = 1 ∨ x % 6 = 2 ∨ x % 6 = 3 ∨ x % 6 = 4 ∨ x % 6 = 5) with k | k | k | k | k | k
  · exact .inl ⟨x / 6, ⟨by simp only; omega, by simp only; omega⟩, congrArg (Value.int _) (by omega)⟩
  · exact .inr (.inl ⟨x / 6, ⟨by simp only; omega, by simp only; omega⟩, congrArg (Value.int _) (by omega)⟩)
  · exact .inr (.inr (.inl ⟨x / 6, ⟨by simp only; omega, by simp only; omega⟩, congrArg (Value.int _) (by omega)⟩))
  · exact .inr (.inr (.inr (.inl ⟨x / 6, ⟨by simp only; omega, by simp only; omega⟩, congrArg (Value.int _) (by omega)⟩)))
  · exact .inr (.inr (.inr (.inr (.inl ⟨x / 6, ⟨by simp only; omega, by simp only; omega⟩, congrArg (Value.int _) (by omega)⟩))))
  · exact .inr (.inr (.inr (.inr (.inr (⟨x / 6, ⟨by simp only; omega, by simp only; omega⟩, congrArg (Value.int _) (by omega)⟩)))))
theorem SdCover1 (x : Int) (h : 0 ≤ x ∧ x ≤ 255) : (∃ q, (Ar.num .u8 0 0).ok (0, 0) q (.int .u8 x)) ∨ (∃ q, (Ar.num .u8 2 0).ok (1, 127) q (.int .u8 x)) ∨ (∃ q, (Ar.num .u8 2 1).ok (0, 127) q (.int .u8 x)) := by
  rcases (by omega : x = 0 ∨ 0 < x ∧ x % 2 = 0 ∨ x % 2 = 1) with k | k | k
  · exact .inl ⟨0, ⟨by simp only; omega, by simp only; omega⟩, congrArg (Value.int _) (by omega)⟩
  · exact .inr (.inl ⟨x / 2, ⟨by simp only; omega, by simp only; omega⟩, congrArg (Value.int _) (by omega)⟩)
  · exact .inr (.inr (⟨x / 2, ⟨by simp only; omega, by simp only; omega⟩, congrArg (Value.int _) (by omega)⟩))
theorem SdCover2 (x : Int) (h : 0 ≤ x ∧ x ≤ 255) : (∃ q, (Ar.num .u8 3 0).ok (0, 85) q (.int .u8 x)) ∨ (∃ q, (Ar.num .u8 3 1).ok (0, 84) q (.int .u8 x)) ∨ (∃ q, (Ar.num .u8 3 2).ok (0, 84) q (.int .u8 x)) := by
  rcases (by omega : x % 3 = 0 ∨ x % 3 = 1 ∨ x % 3 = 2) with k | k | k
  · exact .inl ⟨x / 3, ⟨by simp only; omega, by simp only; omega⟩, congrArg (Value.int _) (by omega)⟩
  · exact .inr (.inl ⟨x / 3, ⟨by simp only; omega, by simp only; omega⟩, congrArg (Value.int _) (by omega)⟩)
  · exact .inr (.inr (⟨x / 3, ⟨by simp only; omega, by simp only; omega⟩, congrArg (Value.int _) (by omega)⟩))
theorem Sd_all (a0 : Int) (w0 : (Lit.int .u8 a0).wf = true) (a1 : Int) (w1 : (Lit.int .u8 a1).wf = true) (a2 : Int) (w2 : (Lit.int .u8 a2).wf = true) (W : World) (hglob : GlobOk W) :
    Calls Tryz.prog 3 #[.int .u8 a0, .int .u8 a1, .int .u8 a2] W fun e w' => e = .returned (.bool true) ∧ RowKit.Below W.heap.size W w' := by
  have b0 : 0 ≤ a0 ∧ a0 ≤ 255 := by simp [Lit.wf, IntKind.min, IntKind.max, IntKind.signed, IntKind.bits] at w0; omega
  have b1 : 0 ≤ a1 ∧ a1 ≤ 255 := by simp [Lit.wf, IntKind.min, IntKind.max, IntKind.signed, IntKind.bits] at w1; omega
  have b2 : 0 ≤ a2 ∧ a2 ≤ 255 := by simp [Lit.wf, IntKind.min, IntKind.max, IntKind.signed, IntKind.bits] at w2; omega
  have fin : ∀ {bs : List (Int × Int)} {ars : List Ar} {qs : List Int}, caseS bs ars = true → ArsOk bs ars qs [.int .u8 a0, .int .u8 a1, .int .u8 a2] → Calls Tryz.prog 3 #[.int .u8 a0, .int .u8 a1, .int .u8 a2] W fun e w' => e = .returned (.bool true) ∧ RowKit.Below W.heap.size W w' := fun {bs ars qs} h ha =>
    let ⟨hsz, rv, hrv, h1⟩ := hglob
    caseS_law h (by simp) ha hsz hrv h1
  rcases SdCover0 a0 b0 with ⟨q0, h0⟩ | ⟨q0, h0⟩ | ⟨q0, h0⟩ | ⟨q0, h0⟩ | ⟨q0, h0⟩ | ⟨q0, h0⟩
  · rcases SdCover1 a1 b1 with ⟨q1, h1⟩ | ⟨q1, h1⟩ | ⟨q1, h1⟩
    · rcases SdCover2 a2 b2 with ⟨q2, h2⟩ | ⟨q2, h2⟩ | ⟨q2, h2⟩
      · exact fin ((Bool.and_eq_true_iff.mp (Bool.and_eq_true_iff.mp SdPart0).1).1) (.cons h0 (.cons h1 (.cons h2 .nil)))
      · exact fin ((Bool.and_eq_true_iff.mp (Bool.and_eq_true_iff.mp SdPart0).1).2) (.cons h0 (.cons h1 (.cons h2 .nil)))
      · exact fin ((Bool.and_eq_true_iff.mp SdPart0).2) (.cons h0 (.cons h1 (.cons h2 .nil)))
    · rcases SdCover2 a2 b2 with ⟨q2, h2⟩ | ⟨q2, h2⟩ | ⟨q2, h2⟩
      · exact fin ((Bool.and_eq_true_iff.mp (Bool.and_eq_true_iff.mp SdPart1).1).1) (.cons h0 (.cons h1 (.cons h2 .nil)))
      · exact fin ((Bool.and_eq_true_iff.mp (Bool.and_eq_true_iff.mp SdPart1).1).2) (.cons h0 (.cons h1 (.cons h2 .nil)))
      · exact fin ((Bool.and_eq_true_iff.mp SdPart1).2) (.cons h0 (.cons h1 (.cons h2 .nil)))
    · rcases SdCover2 a2 b2 with ⟨q2, h2⟩ | ⟨q2, h2⟩ | ⟨q2, h2⟩
      · exact fin ((Bool.and_eq_true_iff.mp (Bool.and_eq_true_iff.mp SdPart2).1).1) (.cons h0 (.cons h1 (.cons h2 .nil)))
      · exact fin ((Bool.and_eq_true_iff.mp (Bool.and_eq_true_iff.mp SdPart2).1).2) (.cons h0 (.cons h1 (.cons h2 .nil)))
      · exact fin ((Bool.and_eq_true_iff.mp SdPart2).2) (.cons h0 (.cons h1 (.cons h2 .nil)))
  · rcases SdCover1 a1 b1 with ⟨q1, h1⟩ | ⟨q1, h1⟩ | ⟨q1, h1⟩
    · rcases SdCover2 a2 b2 with ⟨q2, h2⟩ | ⟨q2, h2⟩ | ⟨q2, h2⟩
      · exact fin ((Bool.and_eq_true_iff.mp (Bool.and_eq_true_iff.mp SdPart3).1).1) (.cons h0 (.cons h1 (.cons h2 .nil)))
      · exact fin ((Bool.and_eq_true_iff.mp (Bool.and_eq_true_iff.mp SdPart3).1).2) (.cons h0 (.cons h1 (.cons h2 .nil)))
      · exact fin ((Bool.and_eq_true_iff.mp SdPart3).2) (.cons h0 (.cons h1 (.cons h2 .nil)))
    · rcases SdCover2 a2 b2 with ⟨q2, h2⟩ | ⟨q2, h2⟩ | ⟨q2, h2⟩
      · exact fin ((Bool.and_eq_true_iff.mp (Bool.and_eq_true_iff.mp SdPart4).1).1) (.cons h0 (.cons h1 (.cons h2 .nil)))
      · exact fin ((Bool.and_eq_true_iff.mp (Bool.and_eq_true_iff.mp SdPart4).1).2) (.cons h0 (.cons h1 (.cons h2 .nil)))
      · exact fin ((Bool.and_eq_true_iff.mp SdPart4).2) (.cons h0 (.cons h1 (.cons h2 .nil)))
    · rcases SdCover2 a2 b2 with ⟨q2, h2⟩ | ⟨q2, h2⟩ | ⟨q2, h2⟩
      · exact fin ((Bool.and_eq_true_iff.mp (Bool.and_eq_true_iff.mp SdPart5).1).1) (.cons h0 (.cons h1 (.cons h2 .nil)))
      · exact fin ((Bool.and_eq_true_iff.mp (Bool.and_eq_true_iff.mp SdPart5).1).2) (.cons h0 (.cons h1 (.cons h2 .nil)))
      · exact fin ((Bool.and_eq_true_iff.mp SdPart5).2) (.cons h0 (.cons h1 (.cons h2 .nil)))
  · rcases SdCover1 a1 b1 with ⟨q1, h1⟩ | ⟨q1, h1⟩ | ⟨q1, h1⟩
    · rcases SdCover2 a2 b2 with ⟨q2, h2⟩ | ⟨q2, h2⟩ | ⟨q2, h2⟩
      · exact fin ((Bool.and_eq_true_iff.mp (Bool.and_eq_true_iff.mp SdPart6).1).1) (.cons h0 (.cons h1 (.cons h2 .nil)))
      · exact fin ((Bool.and_eq_true_iff.mp (Bool.and_eq_true_iff.mp SdPart6).1).2) (.cons h0 (.cons h1 (.cons h2 .nil)))
      · exact fin ((Bool.and_eq_true_iff.mp SdPart6).2) (.cons h0 (.cons h1 (.cons h2 .nil)))
    · rcases SdCover2 a2 b2 with ⟨q2, h2⟩ | ⟨q2, h2⟩ | ⟨q2, h2⟩
      · exact fin ((Bool.and_eq_true_iff.mp (Bool.and_eq_true_iff.mp SdPart7).1).1) (.cons h0 (.cons h1 (.cons h2 .nil)))
      · exact fin ((Bool.and_eq_true_iff.mp (Bool.and_eq_true_iff.mp SdPart7).1).2) (.cons h0 (.cons h1 (.cons h2 .nil)))
      · exact fin ((Bool.and_eq_true_iff.mp SdPart7).2) (.cons h0 (.cons h1 (.cons h2 .nil)))
    · rcases SdCover2 a2 b2 with ⟨q2, h2⟩ | ⟨q2, h2⟩ | ⟨q2, h2⟩
      · exact fin ((Bool.and_eq_true_iff.mp (Bool.and_eq_true_iff.mp SdPart8).1).1) (.cons h0 (.cons h1 (.cons h2 .nil)))
      · exact fin ((Bool.and_eq_true_iff.mp (Bool.and_eq_true_iff.mp SdPart8).1).2) (.cons h0 (.cons h1 (.cons h2 .nil)))
      · exact fin ((Bool.and_eq_true_iff.mp SdPart8).2) (.cons h0 (.cons h1 (.cons h2 .nil)))
  · rcases SdCover1 a1 b1 with ⟨q1, h1⟩ | ⟨q1, h1⟩ | ⟨q1, h1⟩
    · rcases SdCover2 a2 b2 with ⟨q2, h2⟩ | ⟨q2, h2⟩ | ⟨q2, h2⟩
      · exact fin ((Bool.and_eq_true_iff.mp (Bool.and_eq_true_iff.mp SdPart9).1).1) (.cons h0 (.cons h1 (.cons h2 .nil)))
      · exact fin ((Bool.and_eq_true_iff.mp (Bool.and_eq_true_iff.mp SdPart9).1).2) (.cons h0 (.cons h1 (.cons h2 .nil)))
      · exact fin ((Bool.and_eq_true_iff.mp SdPart9).2) (.cons h0 (.cons h1 (.cons h2 .nil)))
    · rcases SdCover2 a2 b2 with ⟨q2, h2⟩ | ⟨q2, h2⟩ | ⟨q2, h2⟩
      · exact fin ((Bool.and_eq_true_iff.mp (Bool.and_eq_true_iff.mp SdPart10).1).1) (.cons h0 (.cons h1 (.cons h2 .nil)))
      · exact fin ((Bool.and_eq_true_iff.mp (Bool.and_eq_true_iff.mp SdPart10).1).2) (.cons h0 (.cons h1 (.cons h2 .nil)))
      · exact fin ((Bool.and_eq_true_iff.mp SdPart10).2) (.cons h0 (.cons h1 (.cons h2 .nil)))
    · rcases SdCover2 a2 b2 with ⟨q2, h2⟩ | ⟨q2, h2⟩ | ⟨q2, h2⟩
      · exact fin ((Bool.and_eq_true_iff.mp (Bool.and_eq_true_iff.mp SdPart11).1).1) (.cons h0 (.cons h1 (.cons h2 .nil)))
      · exact fin ((Bool.and_eq_true_iff.mp (Bool.and_eq_true_iff.mp SdPart11).1).2) (.cons h0 (.cons h1 (.cons h2 .nil)))
      · exact fin ((Bool.and_eq_true_iff.mp SdPart11).2) (.cons h0 (.cons h1 (.cons h2 .nil)))
  · rcases SdCover1 a1 b1 with ⟨q1, h1⟩ | ⟨q1, h1⟩ | ⟨q1, h1⟩
    · rcases SdCover2 a2 b2 with ⟨q2, h2⟩ | ⟨q2, h2⟩ | ⟨q2, h2⟩
      · exact fin ((Bool.and_eq_true_iff.mp (Bool.and_eq_true_iff.mp SdPart12).1).1) (.cons h0 (.cons h1 (.cons h2 .nil)))
      · exact fin ((Bool.and_eq_true_iff.mp (Bool.and_eq_true_iff.mp SdPart12).1).2) (.cons h0 (.cons h1 (.cons h2 .nil)))
      · exact fin ((Bool.and_eq_true_iff.mp SdPart12).2) (.cons h0 (.cons h1 (.cons h2 .nil)))
    · rcases SdCover2 a2 b2 with ⟨q2, h2⟩ | ⟨q2, h2⟩ | ⟨q2, h2⟩
      · exact fin ((Bool.and_eq_true_iff.mp (Bool.and_eq_true_iff.mp SdPart13).1).1) (.cons h0 (.cons h1 (.cons h2 .nil)))
      · exact fin ((Bool.and_eq_true_iff.mp (Bool.and_eq_true_iff.mp SdPart13).1).2) (.cons h0 (.cons h1 (.cons h2 .nil)))
      · exact fin ((Bool.and_eq_true_iff.mp SdPart13).2) (.cons h0 (.cons h1 (.cons h2 .nil)))
    · rcases SdCover2 a2 b2 with ⟨q2, h2⟩ | ⟨q2, h2⟩ | ⟨q2, h2⟩
      · exact fin ((Bool.and_eq_true_iff.mp (Bool.and_eq_true_iff.mp SdPart14).1).1) (.cons h0 (.cons h1 (.cons h2 .nil)))
      · exact fin ((Bool.and_eq_true_iff.mp (Bool.and_eq_true_iff.mp SdPart14).1).2) (.cons h0 (.cons h1 (.cons h2 .nil)))
      · exact fin ((Bool.and_eq_true_iff.mp SdPart14).2) (.cons h0 (.cons h1 (.cons h2 .nil)))
  · rcases SdCover1 a1 b1 with ⟨q1, h1⟩ | ⟨q1, h1⟩ | ⟨q1, h1⟩
    · rcases SdCover2 a2 b2 with ⟨q2, h2⟩ | ⟨q2, h2⟩ | ⟨q2, h2⟩
      · exact fin ((Bool.and_eq_true_iff.mp (Bool.and_eq_true_iff.mp SdPart15).1).1) (.cons h0 (.cons h1 (.cons h2 .nil)))
      · exact fin ((Bool.and_eq_true_iff.mp (Bool.and_eq_true_iff.mp SdPart15).1).2) (.cons h0 (.cons h1 (.cons h2 .nil)))
      · exact fin ((Bool.and_eq_true_iff.mp SdPart15).2) (.cons h0 (.cons h1 (.cons h2 .nil)))
    · rcases SdCover2 a2 b2 with ⟨q2, h2⟩ | ⟨q2, h2⟩ | ⟨q2, h2⟩
      · exact fin ((Bool.and_eq_true_iff.mp (Bool.and_eq_true_iff.mp SdPart16).1).1) (.cons h0 (.cons h1 (.cons h2 .nil)))
      · exact fin ((Bool.and_eq_true_iff.mp (Bool.and_eq_true_iff.mp SdPart16).1).2) (.cons h0 (.cons h1 (.cons h2 .nil)))
      · exact fin ((Bool.and_eq_true_iff.mp SdPart16).2) (.cons h0 (.cons h1 (.cons h2 .nil)))
    · rcases SdCover2 a2 b2 with ⟨q2, h2⟩ | ⟨q2, h2⟩ | ⟨q2, h2⟩
      · exact fin ((Bool.and_eq_true_iff.mp (Bool.and_eq_true_iff.mp SdPart17).1).1) (.cons h0 (.cons h1 (.cons h2 .nil)))
      · exact fin ((Bool.and_eq_true_iff.mp (Bool.and_eq_true_iff.mp SdPart17).1).2) (.cons h0 (.cons h1 (.cons h2 .nil)))
      · exact fin ((Bool.and_eq_true_iff.mp SdPart17).2) (.cons h0 (.cons h1 (.cons h2 .nil)))
end Go.Proofs.YtlbnfcpdmngjkaaGreatDoor
