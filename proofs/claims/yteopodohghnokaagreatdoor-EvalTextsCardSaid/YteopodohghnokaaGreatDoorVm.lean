/- A name with a dot: the two readings of it; EvalBinds, joined. -/
import Derived.Test.YteopodohghnokaaGreatDoorVf
import Derived.Test.YteopodohghnokaaGreatDoorVg
import Derived.Test.YteopodohghnokaaGreatDoorVl
namespace Go.Proofs.YteopodohghnokaaGreatDoor
open Go Go.Proofs Go.RowKit
set_option linter.unusedVariables false

theorem indexByte_first : ∀ (l : List UInt8) (c : UInt8) (i : Nat), l[i]? = some c → (∀ j, j < i → l[j]? ≠ some c) → Lib.indexByte l c = i
  | [], c, i, h, _ => by simp at h
  | b :: l, c, 0, h, _ => by
    simp only [List.getElem?_cons_zero, Option.some.injEq] at h
    subst h
    simp [Lib.indexByte]
  | b :: l, c, i + 1, h, hj => by
    have h0 := hj 0 (by omega)
    simp only [List.getElem?_cons_zero, ne_eq, Option.some.injEq] at h0
    have ih := indexByte_first l c i (by simpa using h) (fun j hj' => by have := hj (j + 1) (by omega); simpa using this)
    have hb : (b == c) = false := beq_eq_false_iff_ne.2 h0
    simp only [Lib.indexByte, hb, ih, Bool.false_eq_true, if_false]
    rw [if_neg (by rw [beq_iff_eq]; omega)]
    omega
theorem runF_all (s : ByteArray) : ∀ (d i j : Nat), i ≤ j → j < runF s d i → wnI (bt s j) = true
  | 0, i, j, h1, h2 => by simp only [runF] at h2; omega
  | d + 1, i, j, h1, h2 => by
    simp only [runF] at h2
    split at h2
    · rename_i h
      by_cases e : j = i
      · subst e; exact h
      · exact runF_all s d (i + 1) j (by omega) h2
    · omega
theorem endF_all (s : ByteArray) (j : Nat) (h : j < endF s) : wnI (bt s j) = true := by
  unfold endF at h
  split at h
  · omega
  · split at h
    · exact runF_all s _ _ j (by omega) h
    · omega
theorem bt_byte {s : ByteArray} {j : Nat} (h : j < s.size) : ∃ b : UInt8, s.data.toList[j]? = some b ∧ bt s j = (b.toNat : Int) := by
  refine ⟨s[j]'h, ?_, (bt_at h).symm⟩
  rw [Array.getElem?_toList]
  exact Array.getElem?_eq_getElem h
theorem dot_parts {s : ByteArray} (h : dotP s = true) : 0 < endF s ∧ endF s < s.size ∧ bt s (endF s) = 46 ∧ nameP (s.extract 0 (endF s)) = true ∧ nameP (s.extract (endF s + 1) s.size) = true := by
  unfold dotP at h
  simp only [Bool.and_eq_true, decide_eq_true_eq, beq_iff_eq] at h
  obtain ⟨⟨⟨⟨a, b⟩, c⟩, d⟩, e⟩ := h
  exact ⟨a, b, c, d, e⟩
theorem dot_index {s : ByteArray} (h : dotP s = true) : Lib.indexByte s.data.toList 46 = (endF s : Nat) := by
  obtain ⟨h0, h1, h2, _, _⟩ := dot_parts h
  refine indexByte_first _ _ _ ?_ fun j hj e => ?_
  · obtain ⟨b, e, hb⟩ := bt_byte h1
    rw [e]
    rw [h2] at hb
    congr 1
    exact UInt8.toNat_inj.1 (by have : (b.toNat : Int) = 46 := hb.symm; show b.toNat = 46; omega)
  · obtain ⟨b, e', hb⟩ := bt_byte (s := s) (j := j) (by omega)
    rw [e'] at e
    cases e
    have := endF_all s j hj
    rw [hb] at this
    revert this
    decide
theorem dot_ne {s : ByteArray} (h : dotP s = true) : s.toList ≠ [46] := fun e => by
  obtain ⟨h0, h1, _⟩ := dot_parts h
  have : s.size = 1 := by
    have := congrArg List.length e
    rw [ByteArray.toList_eq] at this
    simpa using this
  omega
/-- All of EvalBinds. -/
theorem Eb_all (name : ByteArray) (hn : name.size ≤ 9223372036854775807) (a : Int) (wa : (Lit.int .i16 a).wf = true) (b : Int) (wb : (Lit.int .i16 b).wf = true) (other : ByteArray) (W : World) :
    Calls Tryz.prog 4 #[.string name, .int .i16 a, .int .i16 b, .string other] W fun e w' => e = .returned (.bool true) ∧ Below W.heap.size W w' := by
  have ha : -32768 ≤ a ∧ a ≤ 32767 := by simp [Lit.wf, IntKind.min, IntKind.max, IntKind.signed, IntKind.bits] at wa; omega
  have hb : -32768 ≤ b ∧ b ≤ 32767 := by simp [Lit.wf, IntKind.min, IntKind.max, IntKind.signed, IntKind.bits] at wb; omega
  refine binds_walk name other a b (dotP name) (!truthP (name.extract 0 (endF name))) ha hb (fun W => (dotted_any name hn W).mono fun e w' ⟨he, hw⟩ => ⟨he, by rw [hw]; exact Below.refl _ _⟩) (fun hd W => ?_) (fun hd W => ?_) awake_any W
  · obtain ⟨h0, h1, h2, h3, h4⟩ := dot_parts hd
    have hcut := fun W => cut_any name (endF name) h1 (dot_index hd) hn (dot_ne hd) W
    have hA := fun W => lexname_any (name.extract 0 (endF name)) W (by rw [ByteArray.size_extract]; omega)
    have hB := fun W => lexname_any (name.extract (endF name + 1) name.size) W (by rw [ByteArray.size_extract]; omega)
    rw [h3] at hA
    rw [h4] at hB
    have hr := fun W => ref_any name _ _ true true true hcut hA hB W
    exact plain4 name _ _ true true hcut hr W
  · have := leaf4 name hn W
    rw [hd] at this
    exact this
end Go.Proofs.YteopodohghnokaaGreatDoor
