/- Bytes of a name: the walks. -/
import Derived.Test.YteopodohghnokaaGreatDoorVh
namespace Go.Proofs.YteopodohghnokaaGreatDoor
open Go Go.Proofs Go.RowKit
set_option maxRecDepth 100000
set_option linter.unusedSimpArgs false
set_option linter.unusedVariables false
set_option maxHeartbeats 2000000

/-- May a name begin with it? -/
def wordI (x : Int) : Bool := x == 95 || (decide (97 ≤ x) && decide (x ≤ 122))
def numI (x : Int) : Bool := decide (48 ≤ x) && decide (x ≤ 57)
def wnI (x : Int) : Bool := wordI x || numI x
theorem begins_any (x : Int) (w : World) : Calls Tryz.prog 51 #[.int .u8 x] w fun e w' => e = .returned (.bool (wordI x)) ∧ w' = w := by
  go_enter Tryz.func51, Tryz.ntmps51
  go_wp2_with fail
  all_goals
    go_ret
    refine ⟨?_, rfl⟩
    unfold wordI
    first
      | (simp_all; done)
      | (simp; rw [Bool.eq_iff_iff]; simp; omega)
      | (simp; omega)
theorem digit_any (x : Int) (w : World) : Calls Tryz.prog 52 #[.int .u8 x] w fun e w' => e = .returned (.bool (numI x)) ∧ w' = w := by
  go_enter Tryz.func52, Tryz.ntmps52
  go_wp2_with fail
  all_goals
    go_ret
    refine ⟨?_, rfl⟩
    unfold numI
    first
      | (simp_all; done)
      | (simp; rw [Bool.eq_iff_iff]; simp; omega)
      | (simp; omega)
/-- A byte. -/
def bt (s : ByteArray) (i : Nat) : Int := if h : i < s.size then ((s[i]'h).toNat : Int) else 0
theorem bt_at {s : ByteArray} {i : Nat} (h : i < s.size) : ((s[i]'h).toNat : Int) = bt s i := by unfold bt; rw [dif_pos h]
/-- The first place from i on, among d, at which no byte of a name stands. -/
def runF (s : ByteArray) : Nat → Nat → Nat
  | 0, i => i
  | d + 1, i => if wnI (bt s i) then runF s d (i + 1) else i
def endF (s : ByteArray) : Nat := if s.size = 0 then 0 else if wordI (bt s 0) then runF s s.size 0 else 0
theorem runF_eq (s : ByteArray) (d i : Nat) : runF s (d + 1) i = cond (wordI (bt s i) || numI (bt s i)) (runF s d (i + 1)) i := by
  simp only [runF]
  rw [show (wordI (bt s i) || numI (bt s i)) = wnI (bt s i) from rfl]
  cases wnI (bt s i) <;> rfl
theorem runF_le (s : ByteArray) : ∀ (d i : Nat), runF s d i ≤ i + d
  | 0, i => Nat.le_refl _
  | d + 1, i => by
    simp only [runF]
    split
    · have := runF_le s d (i + 1); omega
    · omega
theorem endF_le (s : ByteArray) : endF s ≤ s.size := by
  unfold endF
  split
  · omega
  · split
    · have := runF_le s s.size 0; omega
    · omega
theorem end_any (s : ByteArray) (w : World) (hs : s.size ≤ 9223372036854775807) : Calls Tryz.prog 26 #[.string s, .int .i64 0] w fun e w' => e = .returned (.int .i64 (endF s : Nat)) ∧ w' = w := by
  by_cases h0 : s.size = 0
  · have he : endF s = 0 := by unfold endF; rw [if_pos h0]
    rw [he]
    go_enter Tryz.func26, Tryz.ntmps26
    go_wp2_with fail
    go_ret
    exact ⟨rfl, rfl⟩
  · have h1 : (0 : Int) < s.size := by omega
    have h2 : ¬ (s.size : Int) ≤ 0 := by omega
    have h3 : 0 < s.size := by omega
    have hE := Lib.hid (show endF s = if wordI (bt s 0) then runF s s.size 0 else 0 by unfold endF; rw [if_neg h0])
    have hb0 := bt_at h3
    go_enter Tryz.func26, Tryz.ntmps26
    go_wp2_with fail
    refine (begins_any _ w).mono ?_
    rintro e w' ⟨rfl, hw⟩
    subst hw
    obtain ⟨b, hb⟩ : ∃ b, wordI (bt s 0) = b := ⟨_, rfl⟩
    rw [hb]
    have hE2 := hE.out
    rw [hb] at hE2
    have HE := Lib.hid hE2
    clear hE hE2 hb hb0 h2 h0
    cases b
    · go_wp2_with fail
      go_ret
      exact ⟨by rw [HE.out]; rfl, rfl⟩
    · go_wp2_with fail
      go_loopw [5] (fun iv wr => ∃ i : Nat, i ≤ s.size ∧ iv = .int .i64 i ∧ runF s (s.size - i) i = endF s ∧ wr = w') (fun iv _ => s.size - (intOf iv).toNat)
      case atStart => exact ⟨0, by omega, rfl, HE.out.symm, rfl⟩
      case round =>
        obtain ⟨i, hi, rfl, hR, rfl⟩ := hrel
        have HR := Lib.hid hR
        clear hR h1 h3
        by_cases hlt : i < s.size
        · have hbi := bt_at hlt
          have hlt' : (i : Int) < s.size := by omega
          have hR2 := HR.out
          rw [show s.size - i = (s.size - (i + 1)) + 1 by omega] at hR2
          rw [runF_eq] at hR2
          have HR2 := Lib.hid hR2
          clear hR2 HR
          go_wp2_with fail
          refine (begins_any _ wr).mono ?_
          rintro e w2 ⟨rfl, hw⟩
          subst hw
          obtain ⟨b, hb⟩ : ∃ b, wordI (bt s i) = b := ⟨_, rfl⟩
          rw [hb]
          have hR3 := HR2.out
          rw [hb] at hR3
          have HR3 := Lib.hid hR3
          clear hR3 HR2 hb
          cases b
          · go_wp2_with fail
            refine (digit_any _ w2).mono ?_
            rintro e w3 ⟨rfl, hw⟩
            subst hw
            obtain ⟨d, hd⟩ : ∃ d, numI (bt s i) = d := ⟨_, rfl⟩
            rw [hd]
            have hR4 := HR3.out
            rw [hd] at hR4
            have HR4 := Lib.hid hR4
            clear hR4 HR3 hd hbi
            cases d
            · go_wp2_with fail
              go_ret
              exact ⟨by have := HR4.out; rw [← this]; rfl, rfl⟩
            · go_wp2_with fail
              go_roundw
              case rel => exact ⟨i + 1, by omega, by go_num, HR4.out, by simp⟩
              case measure => simp [intOf]; omega
          · clear hbi
            go_wp2_with fail
            go_roundw
            case rel => exact ⟨i + 1, by omega, by go_num, HR3.out, by simp⟩
            case measure => simp [intOf]; omega
        · obtain rfl : i = s.size := by omega
          go_wp2_with fail
          go_ret
          exact ⟨by have := HR.out; rw [Nat.sub_self] at this; rw [← this]; rfl, rfl⟩
end Go.Proofs.YteopodohghnokaaGreatDoor
