-- PRINTED BY print.sh 35421559b90ae4d0a3588c463048766b98c2df88dd9212a6774a882060cdf62d: not written by this session
import Derived.Test.YtbmjdkbakeckoaaPRefsAllx0
namespace Go.Proofs.Ytbmjdkbakeckoaa.PRefsAll
open Go.RowKit Go.Proofs.YtbmjdkbakeckoaaW.PrintWords Go.Proofs.YtbmjdkbakeckoaaW.PrintLast Go.Proofs.YtbmjdkbakeckoaaW.PrintMore
attribute [local go_sem] max2_int min2_int max_two min_two max_three min_three max_four min_four   -- for this text's walks alone
set_option linter.unusedVariables false
set_option linter.unusedSimpArgs false

/-! ### doorkeeperref1_arms: function 38 -/
mutual
def doorkeeperref1_arms.j0 : Nat → Int → Bool → Option (Int)
  | 0, _, _ => none
  | k + 1, x0, x3 => if x3 = true then (some 0) else (if x0 = 5 then (doorkeeperref1_arms.j1 k x0 true) else (doorkeeperref1_arms.j1 k x0 (x0 == 6)))
def doorkeeperref1_arms.j1 : Nat → Int → Bool → Option (Int)
  | 0, _, _ => none
  | k + 1, x0, x10 => if x10 = true then (some (-1)) else (if x0 = 8 then (doorkeeperref1_arms.j2 k x0 true) else (doorkeeperref1_arms.j2 k x0 (x0 == 9)))
def doorkeeperref1_arms.j2 : Nat → Int → Bool → Option (Int)
  | 0, _, _ => none
  | k + 1, x0, x17 => if x17 = true then (some 1) else (if x0 = 10 then (some 3) else (if x0 = 7 then (some 2) else (if x0 ≥ 11 then (if x0 ≤ 23 then (some 2) else (some (-2))) else (some (-2)))))
end
def doorkeeperref1_arms.f (k : Nat) (a0 : Int) : Option (Int) := if a0 ≥ 1 then (doorkeeperref1_arms.j0 k a0 (decide (a0 ≤ 4))) else (doorkeeperref1_arms.j0 k a0 false)
theorem doorkeeperref1_arms.mono_l : ∀ k, (∀ y0 y1, LeO (doorkeeperref1_arms.j0 k y0 y1) (doorkeeperref1_arms.j0 (k + 1) y0 y1)) ∧ (∀ y0 y1, LeO (doorkeeperref1_arms.j1 k y0 y1) (doorkeeperref1_arms.j1 (k + 1) y0 y1)) ∧ (∀ y0 y1, LeO (doorkeeperref1_arms.j2 k y0 y1) (doorkeeperref1_arms.j2 (k + 1) y0 y1))
  | 0 => ⟨fun _ _ r h => by simp [doorkeeperref1_arms.j0] at h, fun _ _ r h => by simp [doorkeeperref1_arms.j1] at h, fun _ _ r h => by simp [doorkeeperref1_arms.j2] at h⟩
  | k + 1 => by
    obtain ⟨ih0, ih1, ih2⟩ := doorkeeperref1_arms.mono_l k
    refine ⟨?_, ?_, ?_⟩
    · intro y0 y1
      unfold doorkeeperref1_arms.j0
      repeat' first
      | (with_reducible exact ih0 _ _)
      | (with_reducible exact ih1 _ _)
      | (with_reducible exact ih2 _ _)
      | (with_reducible exact LeO.refl _)
      | (with_reducible exact LeO.none _)
      | (with_reducible refine LeO.ite ?_ ?_)
      | (with_reducible refine LeO.bind ?_ (fun _ => ?_))
      | exact ih0 _ _
      | exact ih1 _ _
      | exact ih2 _ _
      | exact LeO.none _
      | refine LeO.ite ?_ ?_
      | refine LeO.bind ?_ (fun _ => ?_)
    · intro y0 y1
      unfold doorkeeperref1_arms.j1
      repeat' first
      | (with_reducible exact ih0 _ _)
      | (with_reducible exact ih1 _ _)
      | (with_reducible exact ih2 _ _)
      | (with_reducible exact LeO.refl _)
      | (with_reducible exact LeO.none _)
      | (with_reducible refine LeO.ite ?_ ?_)
      | (with_reducible refine LeO.bind ?_ (fun _ => ?_))
      | exact ih0 _ _
      | exact ih1 _ _
      | exact ih2 _ _
      | exact LeO.none _
      | refine LeO.ite ?_ ?_
      | refine LeO.bind ?_ (fun _ => ?_)
    · intro y0 y1
      unfold doorkeeperref1_arms.j2
      repeat' first
      | (with_reducible exact ih0 _ _)
      | (with_reducible exact ih1 _ _)
      | (with_reducible exact ih2 _ _)
      | (with_reducible exact LeO.refl _)
      | (with_reducible exact LeO.none _)
      | (with_reducible refine LeO.ite ?_ ?_)
      | (with_reducible refine LeO.bind ?_ (fun _ => ?_))
      | exact ih0 _ _
      | exact ih1 _ _
      | exact ih2 _ _
      | exact LeO.none _
      | refine LeO.ite ?_ ?_
      | refine LeO.bind ?_ (fun _ => ?_)
theorem doorkeeperref1_arms.mono : ∀ a0 k, LeO (doorkeeperref1_arms.f k a0) (doorkeeperref1_arms.f (k + 1) a0) := by
  intro a0 k
  obtain ⟨ih0, ih1, ih2⟩ := doorkeeperref1_arms.mono_l k
  unfold doorkeeperref1_arms.f
  repeat' first
      | (with_reducible exact ih0 _ _)
      | (with_reducible exact ih1 _ _)
      | (with_reducible exact ih2 _ _)
      | (with_reducible exact LeO.refl _)
      | (with_reducible exact LeO.none _)
      | (with_reducible refine LeO.ite ?_ ?_)
      | (with_reducible refine LeO.bind ?_ (fun _ => ?_))
      | exact ih0 _ _
      | exact ih1 _ _
      | exact ih2 _ _
      | exact LeO.none _
      | refine LeO.ite ?_ ?_
      | refine LeO.bind ?_ (fun _ => ?_)
set_option maxHeartbeats 8000000 in
set_option maxRecDepth 100000 in
theorem doorkeeperref1_arms.calls (k : Nat) (a0 : Int) (r : Int) (w : World) (h : doorkeeperref1_arms.f k a0 = some r) :
    Calls Try.prog 38 #[.int .i64 a0] w fun e w' => e = .returned (.int .i64 r) ∧ Drawn0 w w' := by
  have H : (if a0 ≥ 1 then (doorkeeperref1_arms.j0 k a0 (decide (a0 ≤ 4))) else (doorkeeperref1_arms.j0 k a0 false)) = some r := h
  clear h
  have HC2 := Aside0.mk H
  clear H
  go_enter Try.func38, Try.ntmps38
  go_upto_region 1 with (fail)
  go_cut [3] (fun v3 wc => ∃ (kq : Nat) (x3_1 : Bool), v3 = .bool x3_1 ∧ Aside0 (doorkeeperref1_arms.j0 kq a0 x3_1 = some r) ∧ Aside0 (kq ≤ k) ∧ Drawn0 w wc)
  case first =>
    have H := HC2.out
    clear HC2
    by_cases c3 : a0 ≥ 1
    · rw [if_pos c3] at H
      have c3b0 : decide (1 ≤ a0) = true := decide_eq_true c3
      clear c3
      (first | rw [c3b0] | (simp only [i64_w, i32_w]; rw [c3b0]) | skip)
      have H' := Aside0.mk H
      clear H
      go_wp2
      go_meet
      case rel => exact ⟨_, (decide (a0 ≤ 4)), (by first | rfl | (simp; done) | (simp [*]; done)), H', ⟨by first | omega | exact Nat.le_refl _⟩, by repeat (first | exact Drawn0.refl _ | apply Drawn0.step)⟩
    · rw [if_neg c3] at H
      have c3b0 : decide (1 ≤ a0) = false := decide_eq_false c3
      clear c3
      (first | rw [c3b0] | (simp only [i64_w, i32_w]; rw [c3b0]) | skip)
      have H' := Aside0.mk H
      clear H
      go_wp2
      go_meet
      case rel => exact ⟨_, (false), (by first | rfl | (simp; done) | (simp [*]; done)), H', ⟨by first | omega | exact Nat.le_refl _⟩, by repeat (first | exact Drawn0.refl _ | apply Drawn0.step)⟩
  case rest =>
    clear HC2
    try clear p2
    try clear c3
    try clear c3b0
    obtain ⟨kq, x3_1, rfl, HA, HJ1, ⟨mc1, rfl⟩⟩ := hcut
    cases kq with
    | zero => exact absurd HA.out (by simp [doorkeeperref1_arms.j0])
    | succ kj1 =>
      have H := HA.out
      clear HA
      simp only [doorkeeperref1_arms.j0] at H
      by_cases c4 : x3_1 = true
      · subst c4
        have H1 : (some 0) = some r := by rw [if_pos rfl] at H; exact H
        clear H
        have H := H1
        clear H1
        obtain rfl := Option.some.inj H
        go_wp2
        go_ret
        exact ⟨by first | rfl | (simp; done) | (simp [*]; done), by repeat (first | exact Drawn0.refl _ | apply Drawn0.step)⟩
      · replace c4 := Bool.eq_false_iff.mpr c4
        subst c4
        have H1 : (if a0 = 5 then (doorkeeperref1_arms.j1 kj1 a0 true) else (doorkeeperref1_arms.j1 kj1 a0 (a0 == 6))) = some r := by rw [if_neg (show ¬ (false = true) by decide)] at H; exact H
        clear H
        have H := H1
        clear H1
        have HC5 := Aside0.mk H
        clear H
        go_upto_region 3 with (fail)
        go_cut [10] (fun v10 wc => ∃ (kq : Nat) (x10_4 : Bool), v10 = .bool x10_4 ∧ Aside0 (doorkeeperref1_arms.j1 kq a0 x10_4 = some r) ∧ Aside0 (kq ≤ kj1) ∧ Drawn0 w wc)
        case first =>
          have H := HC5.out
          clear HC5
          by_cases c6 : a0 = 5
          · rw [if_pos c6] at H
            have c6b0 : (a0 == 5) = true := beq_iff_eq.mpr c6
            have c6b1 : (a0 != 5) = false := bne_eq_false_iff_eq.mpr c6
            clear c6
            (first | rw [c6b0] | (simp only [i64_w, i32_w]; rw [c6b0]) | skip)
            have H' := Aside0.mk H
            clear H
            go_wp2
            go_meet
            case rel => exact ⟨_, (true), (by first | rfl | (simp; done) | (simp [*]; done)), H', ⟨by have := HJ1.out; first | omega | exact Nat.le_refl _⟩, by repeat (first | exact Drawn0.refl _ | apply Drawn0.step)⟩
          · rw [if_neg c6] at H
            have c6b0 : (a0 == 5) = false := beq_eq_false_iff_ne.mpr c6
            have c6b1 : (a0 != 5) = true := bne_iff_ne.mpr c6
            (first | rw [c6b0] | (simp only [i64_w, i32_w]; rw [c6b0]) | skip)
            have H' := Aside0.mk H
            clear H
            go_wp2
            go_meet
            case rel => exact ⟨_, ((a0 == 6)), (by first | rfl | (simp; done) | (simp [*]; done)), H', ⟨by have := HJ1.out; first | omega | exact Nat.le_refl _⟩, by repeat (first | exact Drawn0.refl _ | apply Drawn0.step)⟩
        case rest =>
          clear HC5
          try clear c1
          try clear p2
          try clear c3
          try clear c3b0
          try clear c4
          try clear c6
          try clear c6b0
          try clear c6b1
          try clear p2
          obtain ⟨kq, x10_4, rfl, HA, HJ4, ⟨mc4, rfl⟩⟩ := hcut
          cases kq with
          | zero => exact absurd HA.out (by simp [doorkeeperref1_arms.j1])
          | succ kj4 =>
            have H := HA.out
            clear HA
            simp only [doorkeeperref1_arms.j1] at H
            by_cases c7 : x10_4 = true
            · subst c7
              have H1 : (some (-1)) = some r := by rw [if_pos rfl] at H; exact H
              clear H
              have H := H1
              clear H1
              obtain rfl := Option.some.inj H
              go_wp2
              go_ret
              exact ⟨by first | rfl | (simp; done) | (simp [*]; done), by repeat (first | exact Drawn0.refl _ | apply Drawn0.step)⟩
            · replace c7 := Bool.eq_false_iff.mpr c7
              subst c7
              have H1 : (if a0 = 8 then (doorkeeperref1_arms.j2 kj4 a0 true) else (doorkeeperref1_arms.j2 kj4 a0 (a0 == 9))) = some r := by rw [if_neg (show ¬ (false = true) by decide)] at H; exact H
              clear H
              have H := H1
              clear H1
              have HC8 := Aside0.mk H
              clear H
              go_upto_region 5 with (fail)
              go_cut [17] (fun v17 wc => ∃ (kq : Nat) (x17_7 : Bool), v17 = .bool x17_7 ∧ Aside0 (doorkeeperref1_arms.j2 kq a0 x17_7 = some r) ∧ Aside0 (kq ≤ kj4) ∧ Drawn0 w wc)
              case first =>
                have H := HC8.out
                clear HC8
                by_cases c9 : a0 = 8
                · rw [if_pos c9] at H
                  have c9b0 : (a0 == 8) = true := beq_iff_eq.mpr c9
                  have c9b1 : (a0 != 8) = false := bne_eq_false_iff_eq.mpr c9
                  clear c9
                  (first | rw [c9b0] | (simp only [i64_w, i32_w]; rw [c9b0]) | skip)
                  have H' := Aside0.mk H
                  clear H
                  go_wp2
                  go_meet
                  case rel => exact ⟨_, (true), (by first | rfl | (simp; done) | (simp [*]; done)), H', ⟨by have := HJ1.out; have := HJ4.out; first | omega | exact Nat.le_refl _⟩, by repeat (first | exact Drawn0.refl _ | apply Drawn0.step)⟩
                · rw [if_neg c9] at H
                  have c9b0 : (a0 == 8) = false := beq_eq_false_iff_ne.mpr c9
                  have c9b1 : (a0 != 8) = true := bne_iff_ne.mpr c9
                  (first | rw [c9b0] | (simp only [i64_w, i32_w]; rw [c9b0]) | skip)
                  have H' := Aside0.mk H
                  clear H
                  go_wp2
                  go_meet
                  case rel => exact ⟨_, ((a0 == 9)), (by first | rfl | (simp; done) | (simp [*]; done)), H', ⟨by have := HJ1.out; have := HJ4.out; first | omega | exact Nat.le_refl _⟩, by repeat (first | exact Drawn0.refl _ | apply Drawn0.step)⟩
              case rest =>
                clear HC8
                try clear c1
                try clear p2
                try clear c3
                try clear c3b0
                try clear c4
                try clear c6
                try clear c6b0
                try clear c6b1
                try clear c7
                try clear c9
                try clear c9b0
                try clear c9b1
                try clear p2
                obtain ⟨kq, x17_7, rfl, HA, HJ7, ⟨mc7, rfl⟩⟩ := hcut
                cases kq with
                | zero => exact absurd HA.out (by simp [doorkeeperref1_arms.j2])
                | succ kj7 =>
                  have H := HA.out
                  clear HA
                  simp only [doorkeeperref1_arms.j2] at H
                  by_cases c10 : x17_7 = true
                  · subst c10
                    have H1 : (some 1) = some r := by rw [if_pos rfl] at H; exact H
                    clear H
                    have H := H1
                    clear H1
                    obtain rfl := Option.some.inj H
                    go_wp2
                    go_ret
                    exact ⟨by first | rfl | (simp; done) | (simp [*]; done), by repeat (first | exact Drawn0.refl _ | apply Drawn0.step)⟩
                  · replace c10 := Bool.eq_false_iff.mpr c10
                    subst c10
                    have H1 : (if a0 = 10 then (some 3) else (if a0 = 7 then (some 2) else (if a0 ≥ 11 then (if a0 ≤ 23 then (some 2) else (some (-2))) else (some (-2))))) = some r := by rw [if_neg (show ¬ (false = true) by decide)] at H; exact H
                    clear H
                    have H := H1
                    clear H1
                    by_cases c11 : a0 = 10
                    · rw [if_pos c11] at H
                      have c11b0 : (a0 == 10) = true := beq_iff_eq.mpr c11
                      have c11b1 : (a0 != 10) = false := bne_eq_false_iff_eq.mpr c11
                      clear c11
                      obtain rfl := Option.some.inj H
                      go_wp2
                      go_ret
                      exact ⟨by first | rfl | (simp; done) | (simp [*]; done), by repeat (first | exact Drawn0.refl _ | apply Drawn0.step)⟩
                    · rw [if_neg c11] at H
                      have c11b0 : (a0 == 10) = false := beq_eq_false_iff_ne.mpr c11
                      have c11b1 : (a0 != 10) = true := bne_iff_ne.mpr c11
                      by_cases c12 : a0 = 7
                      · rw [if_pos c12] at H
                        have c12b0 : (a0 == 7) = true := beq_iff_eq.mpr c12
                        have c12b1 : (a0 != 7) = false := bne_eq_false_iff_eq.mpr c12
                        clear c12
                        obtain rfl := Option.some.inj H
                        go_wp2
                        go_ret
                        exact ⟨by first | rfl | (simp; done) | (simp [*]; done), by repeat (first | exact Drawn0.refl _ | apply Drawn0.step)⟩
                      · rw [if_neg c12] at H
                        have c12b0 : (a0 == 7) = false := beq_eq_false_iff_ne.mpr c12
                        have c12b1 : (a0 != 7) = true := bne_iff_ne.mpr c12
                        by_cases c13 : a0 ≥ 11
                        · rw [if_pos c13] at H
                          have c13b0 : decide (11 ≤ a0) = true := decide_eq_true c13
                          clear c13
                          by_cases c14 : a0 ≤ 23
                          · rw [if_pos c14] at H
                            have c14b0 : decide (a0 ≤ 23) = true := decide_eq_true c14
                            clear c14
                            obtain rfl := Option.some.inj H
                            go_wp2
                            go_ret
                            exact ⟨by first | rfl | (simp; done) | (simp [*]; done), by repeat (first | exact Drawn0.refl _ | apply Drawn0.step)⟩
                          · rw [if_neg c14] at H
                            have c14b0 : decide (a0 ≤ 23) = false := decide_eq_false c14
                            clear c14
                            obtain rfl := Option.some.inj H
                            go_wp2
                            go_ret
                            exact ⟨by first | rfl | (simp; done) | (simp [*]; done), by repeat (first | exact Drawn0.refl _ | apply Drawn0.step)⟩
                        · rw [if_neg c13] at H
                          have c13b0 : decide (11 ≤ a0) = false := decide_eq_false c13
                          clear c13
                          obtain rfl := Option.some.inj H
                          go_wp2
                          go_ret
                          exact ⟨by first | rfl | (simp; done) | (simp [*]; done), by repeat (first | exact Drawn0.refl _ | apply Drawn0.step)⟩

/-! ### doorkeeperref1_begins: function 59 -/
def doorkeeperref1_begins.f (a0 : Int) : Option (Bool) := if a0 ≥ 97 then (if a0 ≤ 122 then (some true) else (some (a0 == 95))) else (some (a0 == 95))
set_option maxHeartbeats 8000000 in
set_option maxRecDepth 100000 in
theorem doorkeeperref1_begins.calls (a0 : Int) (r : Bool) (w : World) (h : doorkeeperref1_begins.f a0 = some r) :
    Calls Try.prog 59 #[.int .u8 a0] w fun e w' => e = .returned (.bool r) ∧ Drawn0 w w' := by
  have H : (if a0 ≥ 97 then (if a0 ≤ 122 then (some true) else (some (a0 == 95))) else (some (a0 == 95))) = some r := h
  clear h
  by_cases c2 : a0 ≥ 97
  · rw [if_pos c2] at H
    have c2b0 : decide (97 ≤ a0) = true := decide_eq_true c2
    clear c2
    by_cases c3 : a0 ≤ 122
    · rw [if_pos c3] at H
      have c3b0 : decide (a0 ≤ 122) = true := decide_eq_true c3
      clear c3
      obtain rfl := Option.some.inj H
      go_enter Try.func59, Try.ntmps59
      go_wp2
      go_ret
      exact ⟨by first | rfl | (simp; done) | (simp [*]; done), by repeat (first | exact Drawn0.refl _ | apply Drawn0.step)⟩
    · rw [if_neg c3] at H
      have c3b0 : decide (a0 ≤ 122) = false := decide_eq_false c3
      clear c3
      obtain rfl := Option.some.inj H
      go_enter Try.func59, Try.ntmps59
      go_wp2
      go_ret
      exact ⟨by first | rfl | (simp; done) | (simp [*]; done), by repeat (first | exact Drawn0.refl _ | apply Drawn0.step)⟩
  · rw [if_neg c2] at H
    have c2b0 : decide (97 ≤ a0) = false := decide_eq_false c2
    clear c2
    obtain rfl := Option.some.inj H
    go_enter Try.func59, Try.ntmps59
    go_wp2
    go_ret
    exact ⟨by first | rfl | (simp; done) | (simp [*]; done), by repeat (first | exact Drawn0.refl _ | apply Drawn0.step)⟩

/-! ### doorkeeperref1_digit: function 60 -/
def doorkeeperref1_digit.f (a0 : Int) : Option (Bool) := if a0 ≥ 48 then (some (decide (a0 ≤ 57))) else (some false)
set_option maxHeartbeats 8000000 in
set_option maxRecDepth 100000 in
theorem doorkeeperref1_digit.calls (a0 : Int) (r : Bool) (w : World) (h : doorkeeperref1_digit.f a0 = some r) :
    Calls Try.prog 60 #[.int .u8 a0] w fun e w' => e = .returned (.bool r) ∧ Drawn0 w w' := by
  have H : (if a0 ≥ 48 then (some (decide (a0 ≤ 57))) else (some false)) = some r := h
  clear h
  by_cases c2 : a0 ≥ 48
  · rw [if_pos c2] at H
    have c2b0 : decide (48 ≤ a0) = true := decide_eq_true c2
    clear c2
    obtain rfl := Option.some.inj H
    go_enter Try.func60, Try.ntmps60
    go_wp2
    go_ret
    exact ⟨by first | rfl | (simp; done) | (simp [*]; done), by repeat (first | exact Drawn0.refl _ | apply Drawn0.step)⟩
  · rw [if_neg c2] at H
    have c2b0 : decide (48 ≤ a0) = false := decide_eq_false c2
    clear c2
    obtain rfl := Option.some.inj H
    go_enter Try.func60, Try.ntmps60
    go_wp2
    go_ret
    exact ⟨by first | rfl | (simp; done) | (simp [*]; done), by repeat (first | exact Drawn0.refl _ | apply Drawn0.step)⟩

/-! ### doorkeeperref1_nameEnd: function 48 -/
mutual
def doorkeeperref1_nameEnd.j0 : Nat → ByteArray → Int → Bool → Option (Int)
  | 0, _, _, _ => none
  | k + 1, x0, x1, x16 => if x16 = true then (some x1) else (doorkeeperref1_nameEnd.l0 k x0 x1)
def doorkeeperref1_nameEnd.l0 : Nat → ByteArray → Int → Option (Int)
  | 0, _, _ => none
  | k + 1, x0, x5 => if x5 < (x0.size : Int) then (if 0 ≤ x5 then ((doorkeeperref1_begins.f (bt x0 x5)).bind fun t127 => (if t127 = true then (doorkeeperref1_nameEnd.l0 k x0 (wrap64 (x5 + 1))) else ((doorkeeperref1_digit.f (bt x0 x5)).bind fun t128 => (if t128 = true then (doorkeeperref1_nameEnd.l0 k x0 (wrap64 (x5 + 1))) else (some x5))))) else (none)) else (some x5)
end
def doorkeeperref1_nameEnd.f (k : Nat) (a0 : ByteArray) (a1 : Int) : Option (Int) := if a1 ≥ (a0.size : Int) then (doorkeeperref1_nameEnd.j0 k a0 a1 true) else (if 0 ≤ a1 then (if a1 < (a0.size : Int) then ((doorkeeperref1_begins.f (bt a0 a1)).bind fun t126 => (doorkeeperref1_nameEnd.j0 k a0 a1 (!t126))) else (none)) else (none))
theorem doorkeeperref1_nameEnd.mono_l : ∀ k, (∀ y0 y1 y2, LeO (doorkeeperref1_nameEnd.j0 k y0 y1 y2) (doorkeeperref1_nameEnd.j0 (k + 1) y0 y1 y2)) ∧ (∀ y0 y1, LeO (doorkeeperref1_nameEnd.l0 k y0 y1) (doorkeeperref1_nameEnd.l0 (k + 1) y0 y1))
  | 0 => ⟨fun _ _ _ r h => by simp [doorkeeperref1_nameEnd.j0] at h, fun _ _ r h => by simp [doorkeeperref1_nameEnd.l0] at h⟩
  | k + 1 => by
    obtain ⟨ih0, ih1⟩ := doorkeeperref1_nameEnd.mono_l k
    refine ⟨?_, ?_⟩
    · intro y0 y1 y2
      unfold doorkeeperref1_nameEnd.j0
      repeat' first
      | (with_reducible exact ih0 _ _ _)
      | (with_reducible exact ih1 _ _)
      | (with_reducible exact LeO.refl _)
      | (with_reducible exact LeO.none _)
      | (with_reducible refine LeO.ite ?_ ?_)
      | (with_reducible refine LeO.bind ?_ (fun _ => ?_))
      | exact ih0 _ _ _
      | exact ih1 _ _
      | exact LeO.none _
      | refine LeO.ite ?_ ?_
      | refine LeO.bind ?_ (fun _ => ?_)
    · intro y0 y1
      unfold doorkeeperref1_nameEnd.l0
      repeat' first
      | (with_reducible exact ih0 _ _ _)
      | (with_reducible exact ih1 _ _)
      | (with_reducible exact LeO.refl _)
      | (with_reducible exact LeO.none _)
      | (with_reducible refine LeO.ite ?_ ?_)
      | (with_reducible refine LeO.bind ?_ (fun _ => ?_))
      | exact ih0 _ _ _
      | exact ih1 _ _
      | exact LeO.none _
      | refine LeO.ite ?_ ?_
      | refine LeO.bind ?_ (fun _ => ?_)
theorem doorkeeperref1_nameEnd.mono : ∀ a0 a1 k, LeO (doorkeeperref1_nameEnd.f k a0 a1) (doorkeeperref1_nameEnd.f (k + 1) a0 a1) := by
  intro a0 a1 k
  obtain ⟨ih0, ih1⟩ := doorkeeperref1_nameEnd.mono_l k
  unfold doorkeeperref1_nameEnd.f
  repeat' first
      | (with_reducible exact ih0 _ _ _)
      | (with_reducible exact ih1 _ _)
      | (with_reducible exact LeO.refl _)
      | (with_reducible exact LeO.none _)
      | (with_reducible refine LeO.ite ?_ ?_)
      | (with_reducible refine LeO.bind ?_ (fun _ => ?_))
      | exact ih0 _ _ _
      | exact ih1 _ _
      | exact LeO.none _
      | refine LeO.ite ?_ ?_
      | refine LeO.bind ?_ (fun _ => ?_)
set_option maxHeartbeats 8000000 in
set_option maxRecDepth 100000 in
theorem doorkeeperref1_nameEnd.calls (k : Nat) (a0 : ByteArray) (a1 : Int) (r : Int) (w : World) (h : doorkeeperref1_nameEnd.f k a0 a1 = some r) :
    Calls Try.prog 48 #[.string a0, .int .i64 a1] w fun e w' => e = .returned (.int .i64 r) ∧ Drawn0 w w' := by
  have H : (if a1 ≥ (a0.size : Int) then (doorkeeperref1_nameEnd.j0 k a0 a1 true) else (if 0 ≤ a1 then (if a1 < (a0.size : Int) then ((doorkeeperref1_begins.f (bt a0 a1)).bind fun t126 => (doorkeeperref1_nameEnd.j0 k a0 a1 (!t126))) else (none)) else (none))) = some r := h
  clear h
  have HC3 := Aside0.mk H
  clear H
  go_enter Try.func48, Try.ntmps48
  go_upto_region 1 with (fail)
  go_cut [16] (fun v16 wc => ∃ (kq : Nat) (x16_2 : Bool), v16 = .bool x16_2 ∧ Aside0 (doorkeeperref1_nameEnd.j0 kq a0 a1 x16_2 = some r) ∧ Aside0 (kq ≤ k) ∧ Drawn0 w wc)
  case first =>
    have H := HC3.out
    clear HC3
    by_cases c4 : a1 ≥ (a0.size : Int)
    · rw [if_pos c4] at H
      have c4b0 : decide ((a0.size : Int) ≤ a1) = true := decide_eq_true c4
      clear c4
      (first | rw [c4b0] | (simp only [i64_w, i32_w]; rw [c4b0]) | skip)
      have H' := Aside0.mk H
      clear H
      go_wp2
      go_meet
      case rel => exact ⟨_, (true), (by first | rfl | (simp; done) | (simp [*]; done)), H', ⟨by first | omega | exact Nat.le_refl _⟩, by repeat (first | exact Drawn0.refl _ | apply Drawn0.step)⟩
    · rw [if_neg c4] at H
      have c4b0 : decide ((a0.size : Int) ≤ a1) = false := decide_eq_false c4
      clear c4
      (first | rw [c4b0] | (simp only [i64_w, i32_w]; rw [c4b0]) | skip)
      by_cases c5 : 0 ≤ a1
      · rw [if_pos c5] at H
        have c5b0 : decide (0 ≤ a1) = true := decide_eq_true c5
        clear c5
        by_cases c6 : a1 < (a0.size : Int)
        · rw [if_pos c6] at H
          have c6b0 : decide (a1 < (a0.size : Int)) = true := decide_eq_true c6
          clear c6
          replace H := Option.bind_eq_some_iff.mp H
          obtain ⟨t126, A80, H⟩ := H
          replace H : (doorkeeperref1_nameEnd.j0 k a0 a1 (!t126)) = some r := H
          have A8 := Aside0.mk A80
          clear A80
          have H' := Aside0.mk H
          clear H
          have p7 : 0 ≤ (a1 : Int) := of_decide_eq_true (by first | (with_reducible assumption) | assumption)
          have q7 : a1 < (a0.size : Int) := of_decide_eq_true (by first | (with_reducible assumption) | assumption)
          have hx7 := bt_at a0 a1
          replace p7 := eq_true p7
          replace q7 := eq_true q7
          go_wp2_with (first | (go_at_call 59; (with_reducible refine (doorkeeperref1_begins.calls (bt a0 a1) t126 _ A8.out).mono ?_); rintro e w' ⟨rfl, ⟨nd, rfl⟩⟩))
          go_meet
          case rel => exact ⟨_, (!t126), (by first | rfl | (simp; done) | (simp [*]; done)), H', ⟨by first | omega | exact Nat.le_refl _⟩, by repeat (first | exact Drawn0.refl _ | apply Drawn0.step)⟩
        · rw [if_neg c6] at H
          exact absurd H (by simp)
      · rw [if_neg c5] at H
        exact absurd H (by simp)
  case rest =>
    clear HC3
    try clear p2
    try clear c4
    try clear c4b0
    try clear c5
    try clear c5b0
    try clear c6
    try clear c6b0
    try clear p7
    try clear q7
    try clear hx7
    try clear p7
    try clear q7
    obtain ⟨kq, x16_2, rfl, HA, HJ2, ⟨mc2, rfl⟩⟩ := hcut
    cases kq with
    | zero => exact absurd HA.out (by simp [doorkeeperref1_nameEnd.j0])
    | succ kj2 =>
      have H := HA.out
      clear HA
      simp only [doorkeeperref1_nameEnd.j0] at H
      by_cases c9 : x16_2 = true
      · subst c9
        have H1 : (some a1) = some r := by rw [if_pos rfl] at H; exact H
        clear H
        have H := H1
        clear H1
        obtain rfl := Option.some.inj H
        go_wp2
        go_ret
        exact ⟨by first | rfl | (simp; done) | (simp [*]; done), by repeat (first | exact Drawn0.refl _ | apply Drawn0.step)⟩
      · replace c9 := Bool.eq_false_iff.mpr c9
        subst c9
        have H1 : (doorkeeperref1_nameEnd.l0 kj2 a0 a1) = some r := by rw [if_neg (show ¬ (false = true) by decide)] at H; exact H
        clear H
        have H := H1
        clear H1
        have H' := Aside0.mk H
        clear H
        go_wp2
        go_loopg [5] kj2 (fun kq v5 w' => ∃ (x5_2 : Int), v5 = .int .i64 x5_2 ∧ Aside0 (doorkeeperref1_nameEnd.l0 kq a0 x5_2 = some r) ∧ Aside0 (kq ≤ kj2) ∧ Drawn0 w w')
        case atStart => exact ⟨(a1), (by first | rfl | (simp; done) | (simp [*]; done)), H', ⟨Nat.le_refl _⟩, by repeat (first | exact Drawn0.refl _ | apply Drawn0.step)⟩
        case round =>
          clear H'
          try clear c2
          try clear p2
          try clear c4
          try clear c4b0
          try clear c5
          try clear c5b0
          try clear c6
          try clear c6b0
          try clear p7
          try clear q7
          try clear hx7
          try clear c9
          try clear p2
          try clear p7
          try clear q7
          obtain ⟨x5_2, rfl, HA, HK2, ⟨m2, rfl⟩⟩ := hrel
          cases gk with
          | zero => exact absurd HA.out (by simp [doorkeeperref1_nameEnd.l0])
          | succ k2 =>
            have H := HA.out
            clear HA
            simp only [doorkeeperref1_nameEnd.l0] at H
            by_cases c10 : x5_2 < (a0.size : Int)
            · rw [if_pos c10] at H
              have c10b0 : decide (x5_2 < (a0.size : Int)) = true := decide_eq_true c10
              clear c10
              by_cases c11 : 0 ≤ x5_2
              · rw [if_pos c11] at H
                have c11b0 : decide (0 ≤ x5_2) = true := decide_eq_true c11
                clear c11
                replace H := Option.bind_eq_some_iff.mp H
                obtain ⟨t127, A130, H⟩ := H
                replace H : (if t127 = true then (doorkeeperref1_nameEnd.l0 k2 a0 (wrap64 (x5_2 + 1))) else ((doorkeeperref1_digit.f (bt a0 x5_2)).bind fun t128 => (if t128 = true then (doorkeeperref1_nameEnd.l0 k2 a0 (wrap64 (x5_2 + 1))) else (some x5_2)))) = some r := H
                have A13 := Aside0.mk A130
                clear A130
                by_cases c14 : t127 = true
                · subst c14
                  have H1 : (doorkeeperref1_nameEnd.l0 k2 a0 (wrap64 (x5_2 + 1))) = some r := by rw [if_pos rfl] at H; exact H
                  clear H
                  have H := H1
                  clear H1
                  have H' := Aside0.mk H
                  clear H
                  have p12 : 0 ≤ (x5_2 : Int) := of_decide_eq_true (by first | (with_reducible assumption) | assumption)
                  have q12 : x5_2 < (a0.size : Int) := of_decide_eq_true (by first | (with_reducible assumption) | assumption)
                  have hx12 := bt_at a0 x5_2
                  replace p12 := eq_true p12
                  replace q12 := eq_true q12
                  go_wp2_with (first | (go_at_call 59; (with_reducible refine (doorkeeperref1_begins.calls (bt a0 x5_2) true _ A13.out).mono ?_); rintro e w' ⟨rfl, ⟨nd, rfl⟩⟩))
                  go_roundg k2
                  case measure => have := HJ2.out; have := HK2.out; omega
                  case rel => exact ⟨(wrap64 (x5_2 + 1)), (by first | rfl | (simp; done) | (simp [*]; done)), H', ⟨by have := HJ2.out; have := HK2.out; omega⟩, by repeat (first | exact Drawn0.refl _ | apply Drawn0.step)⟩
                · replace c14 := Bool.eq_false_iff.mpr c14
                  subst c14
                  have H1 : ((doorkeeperref1_digit.f (bt a0 x5_2)).bind fun t128 => (if t128 = true then (doorkeeperref1_nameEnd.l0 k2 a0 (wrap64 (x5_2 + 1))) else (some x5_2))) = some r := by rw [if_neg (show ¬ (false = true) by decide)] at H; exact H
                  clear H
                  have H := H1
                  clear H1
                  replace H := Option.bind_eq_some_iff.mp H
                  obtain ⟨t128, A160, H⟩ := H
                  replace H : (if t128 = true then (doorkeeperref1_nameEnd.l0 k2 a0 (wrap64 (x5_2 + 1))) else (some x5_2)) = some r := H
                  have A16 := Aside0.mk A160
                  clear A160
                  by_cases c17 : t128 = true
                  · subst c17
                    have H1 : (doorkeeperref1_nameEnd.l0 k2 a0 (wrap64 (x5_2 + 1))) = some r := by rw [if_pos rfl] at H; exact H
                    clear H
                    have H := H1
                    clear H1
                    have H' := Aside0.mk H
                    clear H
                    have p12 : 0 ≤ (x5_2 : Int) := of_decide_eq_true (by first | (with_reducible assumption) | assumption)
                    have q12 : x5_2 < (a0.size : Int) := of_decide_eq_true (by first | (with_reducible assumption) | assumption)
                    have hx12 := bt_at a0 x5_2
                    replace p12 := eq_true p12
                    replace q12 := eq_true q12
                    go_wp2_with (first | (go_at_call 59; (with_reducible refine (doorkeeperref1_begins.calls (bt a0 x5_2) false _ A13.out).mono ?_); rintro e w' ⟨rfl, ⟨nd, rfl⟩⟩; have p15 : 0 ≤ (x5_2 : Int) := of_decide_eq_true (by first | (with_reducible assumption) | assumption); have q15 : x5_2 < (a0.size : Int) := of_decide_eq_true (by first | (with_reducible assumption) | assumption); have hx15 := bt_at a0 x5_2; replace p15 := eq_true p15; replace q15 := eq_true q15) | (go_at_call 60; (with_reducible refine (doorkeeperref1_digit.calls (bt a0 x5_2) true _ A16.out).mono ?_); rintro e w' ⟨rfl, ⟨nd, rfl⟩⟩))
                    go_roundg k2
                    case measure => have := HJ2.out; have := HK2.out; omega
                    case rel => exact ⟨(wrap64 (x5_2 + 1)), (by first | rfl | (simp; done) | (simp [*]; done)), H', ⟨by have := HJ2.out; have := HK2.out; omega⟩, by repeat (first | exact Drawn0.refl _ | apply Drawn0.step)⟩
                  · replace c17 := Bool.eq_false_iff.mpr c17
                    subst c17
                    have H1 : (some x5_2) = some r := by rw [if_neg (show ¬ (false = true) by decide)] at H; exact H
                    clear H
                    have H := H1
                    clear H1
                    obtain rfl := Option.some.inj H
                    have p12 : 0 ≤ (x5_2 : Int) := of_decide_eq_true (by first | (with_reducible assumption) | assumption)
                    have q12 : x5_2 < (a0.size : Int) := of_decide_eq_true (by first | (with_reducible assumption) | assumption)
                    have hx12 := bt_at a0 x5_2
                    replace p12 := eq_true p12
                    replace q12 := eq_true q12
                    go_wp2_with (first | (go_at_call 59; (with_reducible refine (doorkeeperref1_begins.calls (bt a0 x5_2) false _ A13.out).mono ?_); rintro e w' ⟨rfl, ⟨nd, rfl⟩⟩; have p15 : 0 ≤ (x5_2 : Int) := of_decide_eq_true (by first | (with_reducible assumption) | assumption); have q15 : x5_2 < (a0.size : Int) := of_decide_eq_true (by first | (with_reducible assumption) | assumption); have hx15 := bt_at a0 x5_2; replace p15 := eq_true p15; replace q15 := eq_true q15) | (go_at_call 60; (with_reducible refine (doorkeeperref1_digit.calls (bt a0 x5_2) false _ A16.out).mono ?_); rintro e w' ⟨rfl, ⟨nd, rfl⟩⟩))
                    go_ret
                    exact ⟨by first | rfl | (simp; done) | (simp [*]; done), by repeat (first | exact Drawn0.refl _ | apply Drawn0.step)⟩
              · rw [if_neg c11] at H
                exact absurd H (by simp)
            · rw [if_neg c10] at H
              have c10b0 : decide (x5_2 < (a0.size : Int)) = false := decide_eq_false c10
              clear c10
              obtain rfl := Option.some.inj H
              go_wp2
              go_ret
              exact ⟨by first | rfl | (simp; done) | (simp [*]; done), by repeat (first | exact Drawn0.refl _ | apply Drawn0.step)⟩

/-! ### doorkeeperref1_Name: function 50 -/
def doorkeeperref1_Name.f (k : Nat) (a0 : ByteArray) : Option (Bool) := if a0.toList = ([] : List UInt8) then (some false) else (if (a0.size : Int) ≤ 24 then ((doorkeeperref1_nameEnd.f k a0 0).bind fun t129 => (some (t129 == (a0.size : Int)))) else (some false))
theorem doorkeeperref1_Name.mono : ∀ a0 k, LeO (doorkeeperref1_Name.f k a0) (doorkeeperref1_Name.f (k + 1) a0) := by
  intro a0 k
  unfold doorkeeperref1_Name.f
  repeat' first
      | (with_reducible exact doorkeeperref1_nameEnd.mono _ _ _)
      | (with_reducible exact LeO.refl _)
      | (with_reducible exact LeO.none _)
      | (with_reducible refine LeO.ite ?_ ?_)
      | (with_reducible refine LeO.bind ?_ (fun _ => ?_))
      | exact doorkeeperref1_nameEnd.mono _ _ _
      | exact LeO.none _
      | refine LeO.ite ?_ ?_
      | refine LeO.bind ?_ (fun _ => ?_)
set_option maxHeartbeats 8000000 in
set_option maxRecDepth 100000 in
theorem doorkeeperref1_Name.calls (k : Nat) (a0 : ByteArray) (r : Bool) (w : World) (h : doorkeeperref1_Name.f k a0 = some r) :
    Calls Try.prog 50 #[.string a0] w fun e w' => e = .returned (.bool r) ∧ Drawn0 w w' := by
  have H : (if a0.toList = ([] : List UInt8) then (some false) else (if (a0.size : Int) ≤ 24 then ((doorkeeperref1_nameEnd.f k a0 0).bind fun t129 => (some (t129 == (a0.size : Int)))) else (some false))) = some r := h
  clear h
  by_cases c2 : a0.toList = ([] : List UInt8)
  · rw [if_pos c2] at H
    have c2b0 : (a0.toList == ([] : List UInt8)) = true := beq_iff_eq.mpr c2
    have c2b1 : (a0.toList != ([] : List UInt8)) = false := bne_eq_false_iff_eq.mpr c2
    clear c2
    obtain rfl := Option.some.inj H
    go_enter Try.func50, Try.ntmps50
    go_wp2
    go_ret
    exact ⟨by first | rfl | (simp; done) | (simp [*]; done), by repeat (first | exact Drawn0.refl _ | apply Drawn0.step)⟩
  · rw [if_neg c2] at H
    have c2b0 : (a0.toList == ([] : List UInt8)) = false := beq_eq_false_iff_ne.mpr c2
    have c2b1 : (a0.toList != ([] : List UInt8)) = true := bne_iff_ne.mpr c2
    by_cases c3 : (a0.size : Int) ≤ 24
    · rw [if_pos c3] at H
      have c3b0 : decide ((a0.size : Int) ≤ 24) = true := decide_eq_true c3
      have c3b1 : decide (a0.size ≤ 24) = true := decide_eq_true (by omega)
      clear c3
      replace H := Option.bind_eq_some_iff.mp H
      obtain ⟨t129, A40, H⟩ := H
      replace H : (some (t129 == (a0.size : Int))) = some r := H
      have A4 := Aside0.mk A40
      clear A40
      obtain rfl := Option.some.inj H
      go_enter Try.func50, Try.ntmps50
      go_wp2_with (first | (go_at_call 48; (with_reducible refine (doorkeeperref1_nameEnd.calls k a0 0 t129 _ A4.out).mono ?_); rintro e w' ⟨rfl, ⟨nd, rfl⟩⟩))
      go_ret
      exact ⟨by first | rfl | (simp; done) | (simp [*]; done), by repeat (first | exact Drawn0.refl _ | apply Drawn0.step)⟩
    · rw [if_neg c3] at H
      have c3b0 : decide ((a0.size : Int) ≤ 24) = false := decide_eq_false c3
      have c3b1 : decide (a0.size ≤ 24) = false := decide_eq_false (by omega)
      clear c3
      obtain rfl := Option.some.inj H
      go_enter Try.func50, Try.ntmps50
      go_wp2
      go_ret
      exact ⟨by first | rfl | (simp; done) | (simp [*]; done), by repeat (first | exact Drawn0.refl _ | apply Drawn0.step)⟩

/-! ### doorkeeperref1_Dotted: function 49 -/
def doorkeeperref1_Dotted.f (k : Nat) (a0 : ByteArray) : Option (Bool) := (doorkeeperref1_nameEnd.f k a0 0).bind fun t130 => (if t130 > 0 then (if t130 < (a0.size : Int) then (if 0 ≤ t130 then (if (bt a0 t130) = 46 then (if t130 ≤ (a0.size : Int) then ((doorkeeperref1_Name.f k (a0.extract 0 (t130 : Int).toNat)).bind fun t131 => (if t131 = true then (if 0 ≤ (wrap64 (t130 + 1)) then (if (wrap64 (t130 + 1)) ≤ (a0.size : Int) then ((doorkeeperref1_Name.f k (a0.extract ((wrap64 (t130 + 1)) : Int).toNat a0.size)).bind fun t132 => (some t132)) else (none)) else (none)) else (some false))) else (none)) else (some false)) else (none)) else (some false)) else (some false))
theorem doorkeeperref1_Dotted.mono : ∀ a0 k, LeO (doorkeeperref1_Dotted.f k a0) (doorkeeperref1_Dotted.f (k + 1) a0) := by
  intro a0 k
  unfold doorkeeperref1_Dotted.f
  repeat' first
      | (with_reducible exact doorkeeperref1_Name.mono _ _)
      | (with_reducible exact doorkeeperref1_nameEnd.mono _ _ _)
      | (with_reducible exact LeO.refl _)
      | (with_reducible exact LeO.none _)
      | (with_reducible refine LeO.ite ?_ ?_)
      | (with_reducible refine LeO.bind ?_ (fun _ => ?_))
      | exact doorkeeperref1_Name.mono _ _
      | exact doorkeeperref1_nameEnd.mono _ _ _
      | exact LeO.none _
      | refine LeO.ite ?_ ?_
      | refine LeO.bind ?_ (fun _ => ?_)
set_option maxHeartbeats 8000000 in
set_option maxRecDepth 100000 in
theorem doorkeeperref1_Dotted.calls (k : Nat) (a0 : ByteArray) (r : Bool) (w : World) (h : doorkeeperref1_Dotted.f k a0 = some r) :
    Calls Try.prog 49 #[.string a0] w fun e w' => e = .returned (.bool r) ∧ Drawn0 w w' := by
  have H : ((doorkeeperref1_nameEnd.f k a0 0).bind fun t130 => (if t130 > 0 then (if t130 < (a0.size : Int) then (if 0 ≤ t130 then (if (bt a0 t130) = 46 then (if t130 ≤ (a0.size : Int) then ((doorkeeperref1_Name.f k (a0.extract 0 (t130 : Int).toNat)).bind fun t131 => (if t131 = true then (if 0 ≤ (wrap64 (t130 + 1)) then (if (wrap64 (t130 + 1)) ≤ (a0.size : Int) then ((doorkeeperref1_Name.f k (a0.extract ((wrap64 (t130 + 1)) : Int).toNat a0.size)).bind fun t132 => (some t132)) else (none)) else (none)) else (some false))) else (none)) else (some false)) else (none)) else (some false)) else (some false))) = some r := h
  clear h
  replace H := Option.bind_eq_some_iff.mp H
  obtain ⟨t130, A20, H⟩ := H
  replace H : (if t130 > 0 then (if t130 < (a0.size : Int) then (if 0 ≤ t130 then (if (bt a0 t130) = 46 then (if t130 ≤ (a0.size : Int) then ((doorkeeperref1_Name.f k (a0.extract 0 (t130 : Int).toNat)).bind fun t131 => (if t131 = true then (if 0 ≤ (wrap64 (t130 + 1)) then (if (wrap64 (t130 + 1)) ≤ (a0.size : Int) then ((doorkeeperref1_Name.f k (a0.extract ((wrap64 (t130 + 1)) : Int).toNat a0.size)).bind fun t132 => (some t132)) else (none)) else (none)) else (some false))) else (none)) else (some false)) else (none)) else (some false)) else (some false)) = some r := H
  have A2 := Aside0.mk A20
  clear A20
  by_cases c3 : t130 > 0
  · rw [if_pos c3] at H
    have c3b0 : decide (0 < t130) = true := decide_eq_true c3
    clear c3
    by_cases c4 : t130 < (a0.size : Int)
    · rw [if_pos c4] at H
      have c4b0 : decide (t130 < (a0.size : Int)) = true := decide_eq_true c4
      clear c4
      by_cases c5 : 0 ≤ t130
      · rw [if_pos c5] at H
        have c5b0 : decide (0 ≤ t130) = true := decide_eq_true c5
        clear c5
        by_cases c7 : (bt a0 t130) = 46
        · rw [if_pos c7] at H
          have c7b0 : ((bt a0 t130) == 46) = true := beq_iff_eq.mpr c7
          have c7b1 : ((bt a0 t130) != 46) = false := bne_eq_false_iff_eq.mpr c7
          clear c7
          have c8b0 := eq_true (of_decide_eq_true (by first | (with_reducible assumption) | assumption) : 0 ≤ t130)
          by_cases c9 : t130 ≤ (a0.size : Int)
          · rw [if_pos c9] at H
            have c9b0 := eq_true c9
            have c9b1 : decide (t130 ≤ (a0.size : Int)) = true := decide_eq_true c9
            clear c9
            replace H := Option.bind_eq_some_iff.mp H
            obtain ⟨t131, A100, H⟩ := H
            replace H : (if t131 = true then (if 0 ≤ (wrap64 (t130 + 1)) then (if (wrap64 (t130 + 1)) ≤ (a0.size : Int) then ((doorkeeperref1_Name.f k (a0.extract ((wrap64 (t130 + 1)) : Int).toNat a0.size)).bind fun t132 => (some t132)) else (none)) else (none)) else (some false)) = some r := H
            have A10 := Aside0.mk A100
            clear A100
            by_cases c11 : t131 = true
            · subst c11
              have H1 : (if 0 ≤ (wrap64 (t130 + 1)) then (if (wrap64 (t130 + 1)) ≤ (a0.size : Int) then ((doorkeeperref1_Name.f k (a0.extract ((wrap64 (t130 + 1)) : Int).toNat a0.size)).bind fun t132 => (some t132)) else (none)) else (none)) = some r := by rw [if_pos rfl] at H; exact H
              clear H
              have H := H1
              clear H1
              obtain ⟨ji12, hji12⟩ : ∃ j_ : Int, (wrap64 (t130 + 1)) = j_ := ⟨_, rfl⟩
              replace H : (if 0 ≤ (ji12) then (if (ji12) ≤ (a0.size : Int) then ((doorkeeperref1_Name.f k (a0.extract ((ji12) : Int).toNat a0.size)).bind fun t132 => (some t132)) else (none)) else (none)) = some r := by first | (rw [hji12] at H; exact H) | (simp only [hji12] at H ⊢; exact H)
              (try rw [hji12] at A2)
              (try rw [hji12] at A10)
              have hji12w : (IntKind.i64.wrap (t130 + 1)) = ji12 := (i64_w _).trans hji12
              by_cases c13 : 0 ≤ (ji12)
              · rw [if_pos c13] at H
                have c13b0 := eq_true c13
                have c13b1 : decide (0 ≤ (ji12)) = true := decide_eq_true c13
                clear c13
                by_cases c14 : (ji12) ≤ (a0.size : Int)
                · rw [if_pos c14] at H
                  have c14b0 := eq_true c14
                  have c14b1 : decide ((ji12) ≤ (a0.size : Int)) = true := decide_eq_true c14
                  clear c14
                  replace H := Option.bind_eq_some_iff.mp H
                  obtain ⟨t132, A150, H⟩ := H
                  replace H : (some t132) = some r := H
                  have A15 := Aside0.mk A150
                  clear A150
                  obtain rfl := Option.some.inj H
                  go_enter Try.func49, Try.ntmps49
                  go_wp2_with (first | ((with_reducible refine gate_callee (f := 48) rfl ?_); refine goesL_ (some 5) rfl rfl Try.func48 (by kernel_rfl) rfl #[.string a0, .int .i64 0] rfl (by (try simp only [List.map_toArray, List.map_cons, List.map_nil]); first | done | rfl | (simp only [List.length_drop, List.length_take]; rfl)) ?_; (with_reducible refine (doorkeeperref1_nameEnd.calls k a0 0 t130 _ A2.out).mono ?_); rintro e w' ⟨rfl, ⟨nd, rfl⟩⟩; refine ⟨_, rfl, ?_⟩; have p6 : 0 ≤ (t130 : Int) := of_decide_eq_true (by first | (with_reducible assumption) | assumption); have q6 : t130 < (a0.size : Int) := of_decide_eq_true (by first | (with_reducible assumption) | assumption); have hx6 := bt_at a0 t130; replace p6 := eq_true p6; replace q6 := eq_true q6) | (go_at_call 50; (with_reducible refine (doorkeeperref1_Name.calls k (a0.extract 0 (t130 : Int).toNat) true _ A10.out).mono ?_); rintro e w' ⟨rfl, ⟨nd, rfl⟩⟩) | (go_at_call 50; (with_reducible refine (doorkeeperref1_Name.calls k (a0.extract ((ji12) : Int).toNat a0.size) t132 _ A15.out).mono ?_); rintro e w' ⟨rfl, ⟨nd, rfl⟩⟩))
                  go_ret
                  exact ⟨by first | rfl | (simp; done) | (simp only [← hji12] <;> (first | rfl | simp)) | (simp [*]; done), by repeat (first | exact Drawn0.refl _ | apply Drawn0.step)⟩
                · rw [if_neg c14] at H
                  exact absurd H (by simp)
              · rw [if_neg c13] at H
                exact absurd H (by simp)
            · replace c11 := Bool.eq_false_iff.mpr c11
              subst c11
              have H1 : (some false) = some r := by rw [if_neg (show ¬ (false = true) by decide)] at H; exact H
              clear H
              have H := H1
              clear H1
              obtain rfl := Option.some.inj H
              go_enter Try.func49, Try.ntmps49
              go_wp2_with (first | ((with_reducible refine gate_callee (f := 48) rfl ?_); refine goesL_ (some 5) rfl rfl Try.func48 (by kernel_rfl) rfl #[.string a0, .int .i64 0] rfl (by (try simp only [List.map_toArray, List.map_cons, List.map_nil]); first | done | rfl | (simp only [List.length_drop, List.length_take]; rfl)) ?_; (with_reducible refine (doorkeeperref1_nameEnd.calls k a0 0 t130 _ A2.out).mono ?_); rintro e w' ⟨rfl, ⟨nd, rfl⟩⟩; refine ⟨_, rfl, ?_⟩; have p6 : 0 ≤ (t130 : Int) := of_decide_eq_true (by first | (with_reducible assumption) | assumption); have q6 : t130 < (a0.size : Int) := of_decide_eq_true (by first | (with_reducible assumption) | assumption); have hx6 := bt_at a0 t130; replace p6 := eq_true p6; replace q6 := eq_true q6) | (go_at_call 50; (with_reducible refine (doorkeeperref1_Name.calls k (a0.extract 0 (t130 : Int).toNat) false _ A10.out).mono ?_); rintro e w' ⟨rfl, ⟨nd, rfl⟩⟩))
              go_ret
              exact ⟨by first | rfl | (simp; done) | (simp [*]; done), by repeat (first | exact Drawn0.refl _ | apply Drawn0.step)⟩
          · rw [if_neg c9] at H
            exact absurd H (by simp)
        · rw [if_neg c7] at H
          have c7b0 : ((bt a0 t130) == 46) = false := beq_eq_false_iff_ne.mpr c7
          have c7b1 : ((bt a0 t130) != 46) = true := bne_iff_ne.mpr c7
          obtain rfl := Option.some.inj H
          go_enter Try.func49, Try.ntmps49
          go_wp2_with (first | ((with_reducible refine gate_callee (f := 48) rfl ?_); refine goesL_ (some 5) rfl rfl Try.func48 (by kernel_rfl) rfl #[.string a0, .int .i64 0] rfl (by (try simp only [List.map_toArray, List.map_cons, List.map_nil]); first | done | rfl | (simp only [List.length_drop, List.length_take]; rfl)) ?_; (with_reducible refine (doorkeeperref1_nameEnd.calls k a0 0 t130 _ A2.out).mono ?_); rintro e w' ⟨rfl, ⟨nd, rfl⟩⟩; refine ⟨_, rfl, ?_⟩; have p6 : 0 ≤ (t130 : Int) := of_decide_eq_true (by first | (with_reducible assumption) | assumption); have q6 : t130 < (a0.size : Int) := of_decide_eq_true (by first | (with_reducible assumption) | assumption); have hx6 := bt_at a0 t130; replace p6 := eq_true p6; replace q6 := eq_true q6))
          go_ret
          exact ⟨by first | rfl | (simp; done) | (simp [*]; done), by repeat (first | exact Drawn0.refl _ | apply Drawn0.step)⟩
      · rw [if_neg c5] at H
        exact absurd H (by simp)
    · rw [if_neg c4] at H
      have c4b0 : decide (t130 < (a0.size : Int)) = false := decide_eq_false c4
      clear c4
      obtain rfl := Option.some.inj H
      go_enter Try.func49, Try.ntmps49
      go_wp2_with (first | ((with_reducible refine gate_callee (f := 48) rfl ?_); refine goesL_ (some 5) rfl rfl Try.func48 (by kernel_rfl) rfl #[.string a0, .int .i64 0] rfl (by (try simp only [List.map_toArray, List.map_cons, List.map_nil]); first | done | rfl | (simp only [List.length_drop, List.length_take]; rfl)) ?_; (with_reducible refine (doorkeeperref1_nameEnd.calls k a0 0 t130 _ A2.out).mono ?_); rintro e w' ⟨rfl, ⟨nd, rfl⟩⟩; refine ⟨_, rfl, ?_⟩))
      go_ret
      exact ⟨by first | rfl | (simp; done) | (simp [*]; done), by repeat (first | exact Drawn0.refl _ | apply Drawn0.step)⟩
  · rw [if_neg c3] at H
    have c3b0 : decide (0 < t130) = false := decide_eq_false c3
    clear c3
    obtain rfl := Option.some.inj H
    go_enter Try.func49, Try.ntmps49
    go_wp2_with (first | ((with_reducible refine gate_callee (f := 48) rfl ?_); refine goesL_ (some 5) rfl rfl Try.func48 (by kernel_rfl) rfl #[.string a0, .int .i64 0] rfl (by (try simp only [List.map_toArray, List.map_cons, List.map_nil]); first | done | rfl | (simp only [List.length_drop, List.length_take]; rfl)) ?_; (with_reducible refine (doorkeeperref1_nameEnd.calls k a0 0 t130 _ A2.out).mono ?_); rintro e w' ⟨rfl, ⟨nd, rfl⟩⟩; refine ⟨_, rfl, ?_⟩))
    go_ret
    exact ⟨by first | rfl | (simp; done) | (simp [*]; done), by repeat (first | exact Drawn0.refl _ | apply Drawn0.step)⟩

end Go.Proofs.Ytbmjdkbakeckoaa.PRefsAll
