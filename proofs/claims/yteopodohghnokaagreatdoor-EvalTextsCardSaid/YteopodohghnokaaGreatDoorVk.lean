/- A name as the program's own reading has it: the walks. -/
import Derived.Test.YteopodohghnokaaGreatDoorVj
namespace Go.Proofs.YteopodohghnokaaGreatDoor
open Go Go.Proofs Go.RowKit
set_option maxRecDepth 100000
set_option linter.unusedSimpArgs false
set_option linter.unusedVariables false
set_option maxHeartbeats 2000000

/-- Is it of a name's first bytes (2), of its later ones (3)? -/
def classF (x : Int) : Int := if x = 32 ∨ x = 10 then 1 else if wordI x then 2 else if numI x then 3 else if x = 34 then 4 else if x = 35 then 5 else 0
theorem classF_two (x : Int) : (classF x = 2) ↔ wordI x = true := by
  unfold classF wordI numI
  by_cases h1 : x = 32 ∨ x = 10
  · rw [if_pos h1]
    rcases h1 with rfl | rfl <;> decide
  · rw [if_neg h1]
    cases hb : (x == 95 || (decide (97 ≤ x) && decide (x ≤ 122)))
    · simp only [Bool.false_eq_true, if_false, iff_false]
      split
      · omega
      · split
        · omega
        · split <;> omega
    · simp
theorem classF_wn (x : Int) : (classF x = 2 ∨ classF x = 3) ↔ wnI x = true := by
  unfold wnI
  rw [Bool.or_eq_true, ← classF_two]
  constructor
  · rintro (h | h)
    · exact .inl h
    · right
      unfold classF at h
      split at h
      · omega
      · split at h
        · omega
        · split at h
          · assumption
          · split at h
            · omega
            · split at h <;> omega
  · rintro (h | h)
    · exact .inl h
    · by_cases h2 : classF x = 2
      · exact .inl h2
      · right
        have hw : ¬ wordI x = true := fun e => h2 ((classF_two x).2 e)
        have hr : ¬ (x = 32 ∨ x = 10) := by
          rintro (rfl | rfl) <;> exact absurd h (by decide)
        unfold classF
        rw [if_neg hr, if_neg hw, if_pos h]
theorem class_any (x : Int) (w : World) : Calls Tryz.prog 135 #[.int .u8 x] w fun e w' => e = .returned (.int .i64 (classF x)) ∧ w' = w := by
  have HF := Lib.hid (show classF x = if x = 32 ∨ x = 10 then 1 else if x = 95 ∨ (97 ≤ x ∧ x ≤ 122) then 2 else if 48 ≤ x ∧ x ≤ 57 then 3 else if x = 34 then 4 else if x = 35 then 5 else 0 by
    unfold classF wordI numI
    simp only [Bool.or_eq_true, beq_iff_eq, Bool.and_eq_true, decide_eq_true_eq])
  go_enter Tryz.func135, Tryz.ntmps135
  go_wp2_with fail
  all_goals
    go_ret
    refine ⟨?_, rfl⟩
    rw [HF.out]
    simp_all
    try omega
theorem index2_any (b c : Nat) (x : Int) (w : World) (h0 : w.cell? ⟨b, 0, none⟩ = some (.int .i64 2)) (h1 : w.cell? ⟨b, 1, none⟩ = some (.int .i64 3)) :
    Calls Tryz.prog 102 #[.slice (some ⟨b, 0, none⟩) 2 c, .int .i64 x] w fun e w' => e = .returned (.int .i64 (if x = 2 then 0 else if x = 3 then 1 else -1)) ∧ w' = w := by
  go_enter Tryz.func102, Tryz.ntmps102
  by_cases k2 : x = 2
  · subst k2
    go_wp2_with fail
    refine wp_loop_rounds 3 ?_
    rw [rounds_succ]
    go_wp2_with fail
    go_ret
    exact ⟨rfl, rfl⟩
  · by_cases k3 : x = 3
    · subst k3
      go_wp2_with fail
      refine wp_loop_rounds 3 ?_
      rw [rounds_succ]
      go_wp2_with fail
      rw [rounds_succ]
      go_wp2_with fail
      go_ret
      exact ⟨rfl, rfl⟩
    · have e2 : (x == 2) = false := beq_eq_false_iff_ne.2 k2
      have e3 : (x == 3) = false := beq_eq_false_iff_ne.2 k3
      rw [if_neg k2, if_neg k3]
      go_wp2_with fail
      refine wp_loop_rounds 3 ?_
      rw [rounds_succ]
      go_wp2_with fail
      rw [rounds_succ]
      go_wp2_with fail
      rw [rounds_succ]
      go_wp2_with fail
      go_ret
      exact ⟨rfl, rfl⟩
theorem contains2_any (b c : Nat) (x : Int) (w : World) (h0 : w.cell? ⟨b, 0, none⟩ = some (.int .i64 2)) (h1 : w.cell? ⟨b, 1, none⟩ = some (.int .i64 3)) :
    Calls Tryz.prog 69 #[.slice (some ⟨b, 0, none⟩) 2 c, .int .i64 x] w fun e w' => e = .returned (.bool (decide (x = 2 ∨ x = 3))) ∧ w' = w := by
  have HI := Lib.hid (index2_any b c x w h0 h1)
  clear h0 h1
  go_enter Tryz.func69, Tryz.ntmps69
  go_wp2_with fail
  refine HI.out.mono ?_
  rintro e w' ⟨rfl, hw⟩
  subst hw
  by_cases k2 : x = 2
  · subst k2
    go_wp2_with fail
    go_ret
    exact ⟨rfl, rfl⟩
  · by_cases k3 : x = 3
    · subst k3
      go_wp2_with fail
      go_ret
      exact ⟨rfl, rfl⟩
    · rw [if_neg k2, if_neg k3]
      go_wp2_with fail
      go_ret
      exact ⟨by rw [decide_eq_false (show ¬ (x = 2 ∨ x = 3) by omega)]; rfl, rfl⟩
theorem span_any (s : ByteArray) (b c : Nat) (w : World) (hs : s.size ≤ 9223372036854775807) (h0 : w.cell? ⟨b, 0, none⟩ = some (.int .i64 2)) (h1 : w.cell? ⟨b, 1, none⟩ = some (.int .i64 3)) :
    Calls Tryz.prog 136 #[.string s, .slice (some ⟨b, 0, none⟩) 2 c] w fun e w' => e = .returned (.int .i64 (runF s s.size 0 : Nat)) ∧ w' = w := by
  have HC := Lib.hid (fun x => contains2_any b c x w h0 h1)
  clear h0 h1
  go_enter Tryz.func136, Tryz.ntmps136
  go_wp2_with fail
  go_loopw [8] (fun iv wr => ∃ i : Nat, i ≤ s.size ∧ iv = .int .i64 i ∧ runF s (s.size - i) i = runF s s.size 0 ∧ wr = w) (fun iv _ => s.size - (intOf iv).toNat)
  case atStart => exact ⟨0, by omega, rfl, rfl, rfl⟩
  case round =>
    obtain ⟨i, hi, rfl, hR, hw⟩ := hrel
    subst hw
    have HR := Lib.hid hR
    clear hR
    by_cases hlt : i < s.size
    · have hbi := bt_at hlt
      have hlt' : (i : Int) < s.size := by omega
      have hR2 := HR.out
      rw [show s.size - i = (s.size - (i + 1)) + 1 by omega, runF_eq] at hR2
      have HR2 := Lib.hid hR2
      clear hR2 HR
      go_wp2_with fail
      refine (class_any _ _).mono ?_
      rintro e w2 ⟨rfl, hw⟩
      subst hw
      go_wp2_with fail
      refine (HC.out _).mono ?_
      rintro e w3 ⟨rfl, hw⟩
      subst hw
      obtain ⟨d, hd⟩ : ∃ d, (wordI (bt s i) || numI (bt s i)) = d := ⟨_, rfl⟩
      have he : decide (classF (bt s i) = 2 ∨ classF (bt s i) = 3) = d := by
        rw [← hd, show (wordI (bt s i) || numI (bt s i)) = wnI (bt s i) from rfl, Bool.eq_iff_iff, decide_eq_true_iff]
        exact classF_wn _
      rw [he]
      have hR3 := HR2.out
      rw [hd] at hR3
      have HR3 := Lib.hid hR3
      clear hR3 HR2 hd he hbi
      cases d
      · go_wp2_with fail
        go_ret
        exact ⟨by have := HR3.out; rw [← this]; rfl, rfl⟩
      · go_wp2_with fail
        go_roundw
        case rel => exact ⟨i + 1, by omega, by go_num, HR3.out, by simp⟩
        case measure => simp [intOf]; omega
    · obtain rfl : i = s.size := by omega
      go_wp2_with fail
      go_ret
      exact ⟨by have := HR.out; rw [Nat.sub_self] at this; rw [← this]; rfl, rfl⟩
theorem nameP_eq (s : ByteArray) (h : s.toList.isEmpty = false) (h0 : s.size ≠ 0) : nameP s = (decide (s.size ≤ 24) && wordI (bt s 0) && runF s s.size 0 == s.size) := by
  unfold nameP endF
  rw [h, if_neg h0]
  cases wordI (bt s 0)
  · simp
    intro _ e
    exact h0 e.symm
  · simp
theorem lexname_any (s : ByteArray) (w : World) (hs : s.size ≤ 9223372036854775807) : Calls Tryz.prog 108 #[.string s] w fun e w' => e = .returned (.bool (nameP s)) ∧ Below w.heap.size w w' := by
  obtain ⟨t, ht⟩ : ∃ t, s.toList.isEmpty = t := ⟨_, rfl⟩
  go_enter Tryz.func108, Tryz.ntmps108
  cases t
  · have h0 : s.size ≠ 0 := fun e => by
      have : s.toList = [] := by rw [ByteArray.toList_eq]; exact List.length_eq_zero_iff.1 (by simpa using e)
      rw [this] at ht
      cases ht
    have HP := Lib.hid (nameP_eq s ht h0)
    by_cases h24 : s.size ≤ 24
    · have h24' : (s.size : Int) ≤ 24 := by omega
      have hpos : 0 < s.size := by omega
      have hpos' : (0 : Int) < s.size := by omega
      have hb0 := bt_at hpos
      go_wp2_with fail
      refine (class_any _ _).mono ?_
      rintro e w2 ⟨rfl, hw⟩
      subst hw
      obtain ⟨b, hb⟩ : ∃ b, wordI (bt s 0) = b := ⟨_, rfl⟩
      have hP := HP.out
      rw [hb, decide_eq_true h24] at hP
      have HP2 := Lib.hid hP
      have hcl : (classF (bt s 0) == 2) = b := by
        rw [← hb, Bool.eq_iff_iff, beq_iff_eq]
        exact classF_two _
      clear hP HP
      cases b
      · have hcl2 : ¬ classF (bt s 0) = 2 := fun e => by rw [e] at hcl; cases hcl
        clear hb hb0
        generalize classF (bt s 0) = cl at *
        go_wp2_with fail
        go_ret
        exact ⟨by rw [HP2.out]; rfl, Below.refl _ _⟩
      · have hcl2 : classF (bt s 0) = 2 := by rw [beq_iff_eq] at hcl; exact hcl
        clear hb hb0
        rw [hcl2]
        have hA := (Below.refl w2.heap.size w2).alloc (Nat.le_refl _) (Obj.cells #[Value.int IntKind.i64 2, Value.int IntKind.i64 3] 3)
        have HS := Lib.hid (span_any s w2.heap.size 2 (w2.alloc (Obj.cells #[Value.int IntKind.i64 2, Value.int IntKind.i64 3] 3)) hs ((bk_cell (bk_new _ _) 0).trans rfl) ((bk_cell (bk_new _ _) 1).trans rfl))
        clear hcl hcl2
        go_wp2_with fail
        refine HS.out.mono ?_
        clear HS
        rintro e w3 ⟨rfl, hw⟩
        subst hw
        go_wp2_with fail
        go_ret
        refine ⟨?_, hA⟩
        rw [HP2.out]
        show Ending.returned (Value.bool _) = _
        congr 2
        rw [Bool.eq_iff_iff]
        simp
        omega
    · have h24' : ¬ (s.size : Int) ≤ 24 := by omega
      go_wp2_with fail
      go_ret
      exact ⟨by rw [HP.out, decide_eq_false h24]; rfl, Below.refl _ _⟩
  · go_wp2_with fail
    go_ret
    exact ⟨by unfold nameP; rw [ht]; rfl, Below.refl _ _⟩
end Go.Proofs.YteopodohghnokaaGreatDoor
