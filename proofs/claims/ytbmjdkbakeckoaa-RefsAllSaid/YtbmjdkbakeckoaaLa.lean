/- What is a name: the two readings of it come to one (plain law: no program here but its printed answers). -/
import Derived.Test.YtbmjdkbakeckoaaPRefsAllx3
import Derived.Test.YtbmjdkbakeckoaaPRefsAllx4
namespace Go.Proofs.Ytbmjdkbakeckoaa
open Go.RowKit Go.Proofs.YtbmjdkbakeckoaaW.PrintWords Go.Proofs.Ytbmjdkbakeckoaa.PRefsAll
set_option linter.unusedVariables false
set_option linter.unusedSimpArgs false

/-- May a name begin with it? -/
def wordI (x : Int) : Bool := x == 95 || (decide (97 ≤ x) && decide (x ≤ 122))
def numI (x : Int) : Bool := decide (48 ≤ x) && decide (x ≤ 57)
def wnI (x : Int) : Bool := wordI x || numI x
/-- The first place from i on, among d, at which no byte of a name stands. -/
def runF (s : ByteArray) : Nat → Nat → Nat
  | 0, i => i
  | d + 1, i => if wnI (bt s i) then runF s d (i + 1) else i
def nameP (s : ByteArray) : Bool := decide (0 < s.size) && decide (s.size ≤ 24) && wordI (bt s 0) && (runF s s.size 0 == s.size)
def endF (s : ByteArray) : Nat := if s.size = 0 then 0 else if wordI (bt s 0) then runF s s.size 0 else 0
def classF (x : Int) : Int := if x = 32 ∨ x = 10 then 1 else if wordI x then 2 else if numI x then 3 else if x = 34 then 4 else if x = 35 then 5 else 0

theorem class_eq (k : Nat) (x : Int) : lex_class.f (k + 3) x = some (classF x) := by
  unfold lex_class.f classF
  simp only [lex_class.j0, lex_class.j1, lex_class.j2, wordI, numI]
  by_cases h1 : x = 32
  · subst h1; rfl
  by_cases h2 : x = 10
  · subst h2; rfl
  by_cases h3 : x = 95
  · subst h3; rfl
  have h2' : (x == 10) = false := by simpa using h2
  have h3' : (x == 95) = false := by simpa using h3
  simp only [if_neg h1, h2', h3', h3, h1, h2, if_false, Bool.false_or, or_self]
  by_cases h4 : 97 ≤ x
  · by_cases h5 : x ≤ 122
    · simp [h4, h5]
    · have h6 : ¬ x ≤ 57 := by omega
      have h7 : x ≠ 34 := by omega
      have h8 : x ≠ 35 := by omega
      have h9 : 48 ≤ x := by omega
      simp [h4, h5, h6, h7, h8, h9]
  · by_cases h5 : 48 ≤ x
    · by_cases h6 : x ≤ 57
      · simp [h4, h5, h6]
      · have h7 : x ≠ 34 := by omega
        have h8 : x ≠ 35 := by omega
        simp [h4, h5, h6, h7, h8]
    · by_cases h7 : x = 34
      · simp [h4, h5, h7]
      · by_cases h8 : x = 35
        · simp [h4, h5, h7, h8]
        · simp [h4, h5, h7, h8]

theorem classF_two (x : Int) : (classF x = 2) ↔ wordI x = true := by
  unfold classF
  by_cases h1 : x = 32 ∨ x = 10
  · rw [if_pos h1]
    constructor
    · intro h; omega
    · intro h; rcases h1 with rfl | rfl <;> exact absurd h (by decide)
  · rw [if_neg h1]
    by_cases h2 : wordI x = true
    · rw [if_pos h2]; simp [h2]
    · rw [if_neg h2]
      constructor
      · intro h
        split at h
        · omega
        · split at h
          · omega
          · split at h <;> omega
      · intro h; exact absurd h h2

theorem classF_wn (x : Int) : (classF x = 2 ∨ classF x = 3) ↔ wnI x = true := by
  unfold wnI
  rw [Bool.or_eq_true, ← classF_two]
  constructor
  · rintro (h | h)
    · exact .inl h
    · right
      unfold classF at h
      split at h
      · omega
      · split at h
        · omega
        · split at h
          · assumption
          · split at h
            · omega
            · split at h <;> omega
  · rintro (h | h)
    · exact .inl h
    · by_cases h2 : classF x = 2
      · exact .inl h2
      · right
        have hw : ¬ wordI x = true := fun e => h2 ((classF_two x).2 e)
        have hr : ¬ (x = 32 ∨ x = 10) := by
          rintro (rfl | rfl) <;> exact absurd h (by decide)
        unfold classF
        rw [if_neg hr, if_neg hw, if_pos h]

theorem contains_eq (k : Nat) (c : Int) : slices_Contains_int_int.f (k + 3) [2, 3] c = some (decide (c = 2 ∨ c = 3)) := by
  have w0 : wrap64 1 = 1 := by unfold wrap64; omega
  have w1 : wrap64 2 = 2 := by unfold wrap64; omega
  unfold slices_Contains_int_int.f slices_Index_int_int.f
  by_cases h2 : c = 2
  · subst h2; simp [slices_Index_int_int.l0, rd]
  · by_cases h3 : c = 3
    · subst h3; simp [slices_Index_int_int.l0, rd, w0]
    · simp [slices_Index_int_int.l0, rd, w0, w1, h2, h3]

theorem toList_nil (s : ByteArray) : s.toList = [] ↔ s.size = 0 := by
  rw [ByteArray.toList_eq]
  constructor
  · intro h; have := data_length s; rw [h] at this; exact this.symm
  · intro h; exact List.length_eq_zero_iff.1 ((data_length s).trans h)

theorem span_loop (s : ByteArray) (hs : s.size ≤ 140737488351232) : ∀ (d i k : Nat), i + d = s.size → d + 4 ≤ k → lex_span.l0 k s [2, 3] (s.size : Int) (i : Int) = some ((runF s d i : Nat) : Int)
  | 0, i, k, hi, hk => by
    obtain ⟨k, rfl⟩ : ∃ m, k = m + 1 := ⟨k - 1, by omega⟩
    simp only [lex_span.l0]
    rw [if_neg (by omega)]
    simp only [runF]
    congr 2
    omega
  | d + 1, i, k, hi, hk => by
    obtain ⟨k, rfl⟩ : ∃ m, k = m + 4 := ⟨k - 4, by omega⟩
    have hw : wrap64 ((i : Int) + 1) = ((i + 1 : Nat) : Int) := by unfold wrap64; omega
    simp only [lex_span.l0]
    rw [if_pos (by omega), if_pos (by omega), if_pos (by omega), class_eq k, Option.bind_some, contains_eq k, Option.bind_some]
    simp only [runF]
    by_cases h : wnI (bt s i) = true
    · have h' := (classF_wn _).2 h
      rw [if_pos (by simpa using h'), if_pos h, hw]
      exact span_loop s hs d (i + 1) (k + 3) (by omega) (by omega)
    · have h' := fun e => h ((classF_wn _).1 e)
      rw [if_neg (by simpa using h'), if_neg h]

theorem name_lex (s : ByteArray) (k : Nat) (hk : 40 ≤ k) : lex_Name.f k s = some (nameP s) := by
  unfold lex_Name.f nameP
  by_cases h0 : s.size = 0
  · have e : s.toList = [] := (toList_nil s).2 h0
    rw [if_pos e]
    simp [h0]
  · have e : ¬ s.toList = [] := fun e => h0 ((toList_nil s).1 e)
    rw [if_neg e]
    by_cases h1 : s.size ≤ 24
    · rw [if_pos (by omega), if_pos (by omega)]
      obtain ⟨k, rfl⟩ : ∃ m, k = m + 3 := ⟨k - 3, by omega⟩
      rw [class_eq k, Option.bind_some]
      have hz : ((0 : Nat) : Int) = 0 := rfl
      by_cases h2 : wordI (bt s 0) = true
      · rw [if_pos ((classF_two _).2 h2)]
        unfold lex_span.f
        have := span_loop s (by omega) s.size 0 (k + 3) (by omega) (by omega)
        rw [hz] at this
        rw [this, Option.bind_some]
        have h3 : decide (0 < s.size) = true := decide_eq_true (by omega)
        have h4 : decide (s.size ≤ 24) = true := decide_eq_true h1
        rw [h3, h4, h2]
        simp only [Bool.true_and, Option.some.injEq]
        rw [Bool.eq_iff_iff]
        simp only [beq_iff_eq]
        omega
      · rw [if_neg (fun e => h2 ((classF_two _).1 e))]
        simp [h2]
    · rw [if_neg (by omega)]
      simp [h1]

theorem begins_eq (x : Int) : doorkeeperref1_begins.f x = some (wordI x) := by
  unfold doorkeeperref1_begins.f wordI
  by_cases h1 : x ≥ 97
  · by_cases h2 : x ≤ 122
    · have h3 : ¬ x = 95 := by omega
      simp [h1, h2]
    · simp [h1, h2]
  · have h3 : ¬ 97 ≤ x := h1
    rw [if_neg h1]
    simp [h3]
theorem digit_eq (x : Int) : doorkeeperref1_digit.f x = some (numI x) := by
  unfold doorkeeperref1_digit.f numI
  by_cases h1 : x ≥ 48
  · have h2 : (48 : Int) ≤ x := h1
    rw [if_pos h1]; simp [h2]
  · have h3 : ¬ (48 : Int) ≤ x := h1
    rw [if_neg h1]; simp [h3]

theorem end_loop (s : ByteArray) (hs : s.size ≤ 140737488351232) : ∀ (d i k : Nat), i + d = s.size → d + 1 ≤ k → doorkeeperref1_nameEnd.l0 k s (i : Int) = some ((runF s d i : Nat) : Int)
  | 0, i, k, hi, hk => by
    obtain ⟨k, rfl⟩ : ∃ m, k = m + 1 := ⟨k - 1, by omega⟩
    simp only [doorkeeperref1_nameEnd.l0]
    rw [if_neg (by omega)]
    simp only [runF]
  | d + 1, i, k, hi, hk => by
    obtain ⟨k, rfl⟩ : ∃ m, k = m + 1 := ⟨k - 1, by omega⟩
    have hw : wrap64 ((i : Int) + 1) = ((i + 1 : Nat) : Int) := by unfold wrap64; omega
    simp only [doorkeeperref1_nameEnd.l0]
    rw [if_pos (by omega), if_pos (by omega), begins_eq, Option.bind_some]
    simp only [runF]
    have ih := end_loop s hs d (i + 1) k (by omega) (by omega)
    by_cases h : wordI (bt s i) = true
    · have h3 : wnI (bt s i) = true := by unfold wnI; rw [h]; rfl
      rw [if_pos h, hw, if_pos h3]
      exact ih
    · have h' : wordI (bt s i) = false := by simpa using h
      rw [if_neg h, digit_eq, Option.bind_some]
      by_cases h2 : numI (bt s i) = true
      · have h3 : wnI (bt s i) = true := by unfold wnI; rw [h2, Bool.or_true]
        rw [if_pos h2, hw, if_pos h3]; exact ih
      · have h3 : ¬ wnI (bt s i) = true := by unfold wnI; rw [h', Bool.false_or]; exact h2
        rw [if_neg h2, if_neg h3]

theorem end_eq (s : ByteArray) (hs : s.size ≤ 140737488351232) (k : Nat) (hk : s.size + 2 ≤ k) : doorkeeperref1_nameEnd.f k s 0 = some ((endF s : Nat) : Int) := by
  unfold doorkeeperref1_nameEnd.f endF
  have hz : ((0 : Nat) : Int) = 0 := rfl
  obtain ⟨k, rfl⟩ : ∃ m, k = m + 1 := ⟨k - 1, by omega⟩
  by_cases h0 : s.size = 0
  · rw [if_pos (by omega), if_pos h0]
    simp only [doorkeeperref1_nameEnd.j0]
    rfl
  · rw [if_neg (by omega), if_pos (by omega), if_pos (by omega), begins_eq, Option.bind_some, if_neg h0]
    simp only [doorkeeperref1_nameEnd.j0]
    by_cases h : wordI (bt s 0) = true
    · have := end_loop s hs s.size 0 k (by omega) (by omega)
      rw [hz] at this
      rw [if_pos h, h, this]
      rfl
    · have h' : wordI (bt s 0) = false := by simpa using h
      rw [if_neg h, h']
      rfl

theorem name_ref (s : ByteArray) (k : Nat) (hk : 40 ≤ k) : doorkeeperref1_Name.f k s = some (nameP s) := by
  unfold doorkeeperref1_Name.f nameP
  by_cases h0 : s.size = 0
  · have e : s.toList = [] := (toList_nil s).2 h0
    rw [if_pos e]
    simp [h0]
  · have e : ¬ s.toList = [] := fun e => h0 ((toList_nil s).1 e)
    rw [if_neg e]
    by_cases h1 : s.size ≤ 24
    · rw [if_pos (by omega), end_eq s (by omega) k (by omega), Option.bind_some]
      have h3 : decide (0 < s.size) = true := decide_eq_true (by omega)
      have h4 : decide (s.size ≤ 24) = true := decide_eq_true h1
      rw [h3, h4]
      unfold endF
      rw [if_neg h0]
      by_cases h2 : wordI (bt s 0) = true
      · rw [if_pos h2, h2]
        simp only [Bool.true_and, Option.some.injEq]
        rw [Bool.eq_iff_iff]
        simp only [beq_iff_eq]
        omega
      · have h2' : wordI (bt s 0) = false := by simpa using h2
        rw [if_neg h2, h2']
        simp only [Bool.true_and, Bool.and_false, Bool.false_and, Option.some.injEq]
        rw [beq_eq_false_iff_ne]
        omega
    · rw [if_neg (by omega)]
      simp [h1]
end Go.Proofs.Ytbmjdkbakeckoaa
