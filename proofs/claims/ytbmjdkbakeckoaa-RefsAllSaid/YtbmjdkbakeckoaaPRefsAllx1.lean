-- PRINTED BY print.sh 35421559b90ae4d0a3588c463048766b98c2df88dd9212a6774a882060cdf62d: not written by this session
import Derived.Test.YtbmjdkbakeckoaaPRefsAllx0
namespace Go.Proofs.Ytbmjdkbakeckoaa.PRefsAll
open Go.RowKit Go.Proofs.YtbmjdkbakeckoaaW.PrintWords Go.Proofs.YtbmjdkbakeckoaaW.PrintLast Go.Proofs.YtbmjdkbakeckoaaW.PrintMore
attribute [local go_sem] max2_int min2_int max_two min_two max_three min_three max_four min_four   -- for this text's walks alone
set_option linter.unusedVariables false
set_option linter.unusedSimpArgs false

/-! ### doorkeeperlaw2_Great: function 7 -/
mutual
def doorkeeperlaw2_Great.l0 : Nat → List (S47) → Int → Option (Bool)
  | 0, _, _ => none
  | k + 1, x0, x3 => if x3 < (x0.length : Int) then (doorkeeperlaw2_Great.j1 k x0 x3 (decide (x3 < 100))) else (doorkeeperlaw2_Great.j1 k x0 x3 false)
def doorkeeperlaw2_Great.j1 : Nat → List (S47) → Int → Bool → Option (Bool)
  | 0, _, _, _ => none
  | k + 1, x0, x3, x12 => if x12 = true then (if 0 ≤ x3 then (if x3 < (x0.length : Int) then (if (((rd_T47 x0 x3).f4).length : Int) > 100 then (doorkeeperlaw2_Great.j2 k x0 x3 true) else (if (((rd_T47 x0 x3).f2).size : Int) > 300 then (doorkeeperlaw2_Great.j2 k x0 x3 true) else (doorkeeperlaw2_Great.j2 k x0 x3 (decide ((((rd_T47 x0 x3).f3).length : Int) > 60))))) else (none)) else (none)) else (some (decide ((x0.length : Int) > 80)))
def doorkeeperlaw2_Great.j2 : Nat → List (S47) → Int → Bool → Option (Bool)
  | 0, _, _, _ => none
  | k + 1, x0, x3, x39 => if x39 = true then (some true) else (doorkeeperlaw2_Great.l1 k x0 x3 0)
def doorkeeperlaw2_Great.l1 : Nat → List (S47) → Int → Int → Option (Bool)
  | 0, _, _, _ => none
  | k + 1, x0, x3, x4 => if 0 ≤ x3 then (if x3 < (x0.length : Int) then (if x4 < (((rd_T47 x0 x3).f3).length : Int) then (if 0 ≤ x4 then (if (((rd_T51 ((rd_T47 x0 x3).f3) x4).f1).size : Int) > 300 then (some true) else (doorkeeperlaw2_Great.l1 k x0 x3 (wrap64 (x4 + 1)))) else (none)) else (doorkeeperlaw2_Great.l0 k x0 (wrap64 (x3 + 1)))) else (none)) else (none)
end
def doorkeeperlaw2_Great.f (k : Nat) (l0 : List (S47)) : Option (Bool) := doorkeeperlaw2_Great.l0 k l0 0
theorem doorkeeperlaw2_Great.mono_l : ∀ k, (∀ y0 y1, LeO (doorkeeperlaw2_Great.l0 k y0 y1) (doorkeeperlaw2_Great.l0 (k + 1) y0 y1)) ∧ (∀ y0 y1 y2, LeO (doorkeeperlaw2_Great.j1 k y0 y1 y2) (doorkeeperlaw2_Great.j1 (k + 1) y0 y1 y2)) ∧ (∀ y0 y1 y2, LeO (doorkeeperlaw2_Great.j2 k y0 y1 y2) (doorkeeperlaw2_Great.j2 (k + 1) y0 y1 y2)) ∧ (∀ y0 y1 y2, LeO (doorkeeperlaw2_Great.l1 k y0 y1 y2) (doorkeeperlaw2_Great.l1 (k + 1) y0 y1 y2))
  | 0 => ⟨fun _ _ r h => by simp [doorkeeperlaw2_Great.l0] at h, fun _ _ _ r h => by simp [doorkeeperlaw2_Great.j1] at h, fun _ _ _ r h => by simp [doorkeeperlaw2_Great.j2] at h, fun _ _ _ r h => by simp [doorkeeperlaw2_Great.l1] at h⟩
  | k + 1 => by
    obtain ⟨ih0, ih1, ih2, ih3⟩ := doorkeeperlaw2_Great.mono_l k
    refine ⟨?_, ?_, ?_, ?_⟩
    · intro y0 y1
      unfold doorkeeperlaw2_Great.l0
      repeat' first
      | (with_reducible exact ih0 _ _)
      | (with_reducible exact ih1 _ _ _)
      | (with_reducible exact ih2 _ _ _)
      | (with_reducible exact ih3 _ _ _)
      | (with_reducible exact LeO.refl _)
      | (with_reducible exact LeO.none _)
      | (with_reducible refine LeO.ite ?_ ?_)
      | (with_reducible refine LeO.bind ?_ (fun _ => ?_))
      | exact ih0 _ _
      | exact ih1 _ _ _
      | exact ih2 _ _ _
      | exact ih3 _ _ _
      | exact LeO.none _
      | refine LeO.ite ?_ ?_
      | refine LeO.bind ?_ (fun _ => ?_)
    · intro y0 y1 y2
      unfold doorkeeperlaw2_Great.j1
      repeat' first
      | (with_reducible exact ih0 _ _)
      | (with_reducible exact ih1 _ _ _)
      | (with_reducible exact ih2 _ _ _)
      | (with_reducible exact ih3 _ _ _)
      | (with_reducible exact LeO.refl _)
      | (with_reducible exact LeO.none _)
      | (with_reducible refine LeO.ite ?_ ?_)
      | (with_reducible refine LeO.bind ?_ (fun _ => ?_))
      | exact ih0 _ _
      | exact ih1 _ _ _
      | exact ih2 _ _ _
      | exact ih3 _ _ _
      | exact LeO.none _
      | refine LeO.ite ?_ ?_
      | refine LeO.bind ?_ (fun _ => ?_)
    · intro y0 y1 y2
      unfold doorkeeperlaw2_Great.j2
      repeat' first
      | (with_reducible exact ih0 _ _)
      | (with_reducible exact ih1 _ _ _)
      | (with_reducible exact ih2 _ _ _)
      | (with_reducible exact ih3 _ _ _)
      | (with_reducible exact LeO.refl _)
      | (with_reducible exact LeO.none _)
      | (with_reducible refine LeO.ite ?_ ?_)
      | (with_reducible refine LeO.bind ?_ (fun _ => ?_))
      | exact ih0 _ _
      | exact ih1 _ _ _
      | exact ih2 _ _ _
      | exact ih3 _ _ _
      | exact LeO.none _
      | refine LeO.ite ?_ ?_
      | refine LeO.bind ?_ (fun _ => ?_)
    · intro y0 y1 y2
      unfold doorkeeperlaw2_Great.l1
      repeat' first
      | (with_reducible exact ih0 _ _)
      | (with_reducible exact ih1 _ _ _)
      | (with_reducible exact ih2 _ _ _)
      | (with_reducible exact ih3 _ _ _)
      | (with_reducible exact LeO.refl _)
      | (with_reducible exact LeO.none _)
      | (with_reducible refine LeO.ite ?_ ?_)
      | (with_reducible refine LeO.bind ?_ (fun _ => ?_))
      | exact ih0 _ _
      | exact ih1 _ _ _
      | exact ih2 _ _ _
      | exact ih3 _ _ _
      | exact LeO.none _
      | refine LeO.ite ?_ ?_
      | refine LeO.bind ?_ (fun _ => ?_)
theorem doorkeeperlaw2_Great.mono : ∀ a0 k, LeO (doorkeeperlaw2_Great.f k a0) (doorkeeperlaw2_Great.f (k + 1) a0) := by
  intro a0 k
  obtain ⟨ih0, ih1, ih2, ih3⟩ := doorkeeperlaw2_Great.mono_l k
  unfold doorkeeperlaw2_Great.f
  repeat' first
      | (with_reducible exact ih0 _ _)
      | (with_reducible exact ih1 _ _ _)
      | (with_reducible exact ih2 _ _ _)
      | (with_reducible exact ih3 _ _ _)
      | (with_reducible exact LeO.refl _)
      | (with_reducible exact LeO.none _)
      | (with_reducible refine LeO.ite ?_ ?_)
      | (with_reducible refine LeO.bind ?_ (fun _ => ?_))
      | exact ih0 _ _
      | exact ih1 _ _ _
      | exact ih2 _ _ _
      | exact ih3 _ _ _
      | exact LeO.none _
      | refine LeO.ite ?_ ?_
      | refine LeO.bind ?_ (fun _ => ?_)
set_option maxHeartbeats 8000000 in
set_option maxRecDepth 100000 in
theorem doorkeeperlaw2_Great.calls (k : Nat) (A0 : Option Addr) (c0 : Nat) (l0 : List (S47)) (r : Bool) (w : World) (hr0 : Kd.C k47 w A0 l0.length l0) (hc0 : l0.length ≤ c0) (h : doorkeeperlaw2_Great.f k l0 = some r) :
    Calls Try.prog 7 #[.slice A0 l0.length c0] w fun e w' => e = .returned (.bool r) ∧ Drawn0 w w' := by
  have HR0 := Aside0.mk hr0
  have HC0 := Aside0.mk hc0
  clear hr0 hc0
  have H : (doorkeeperlaw2_Great.l0 k l0 0) = some r := h
  clear h
  have H' := Aside0.mk H
  clear H
  go_enter Try.func7, Try.ntmps7
  go_wp2
  go_loopg [3] k (fun kq v3 w' => ∃ (x3_1 : Int), v3 = .int .i64 x3_1 ∧ Aside0 (doorkeeperlaw2_Great.l0 kq l0 x3_1 = some r) ∧ Aside0 (kq ≤ k) ∧ Drawn0 w w')
  case atStart => exact ⟨(0), (by first | rfl | (simp; done) | (simp [*]; done)), H', ⟨Nat.le_refl _⟩, by repeat (first | exact Drawn0.refl _ | apply Drawn0.step)⟩
  case round =>
    clear H'
    obtain ⟨x3_1, rfl, HA, HK1, ⟨m1, rfl⟩⟩ := hrel
    cases gk with
    | zero => exact absurd HA.out (by simp [doorkeeperlaw2_Great.l0])
    | succ k1 =>
      have H := HA.out
      clear HA
      simp only [doorkeeperlaw2_Great.l0] at H
      have HC2 := Aside0.mk H
      clear H
      go_upto_region 2 with (fail)
      go_cut [12] (fun v12 wc => ∃ (kq : Nat) (x12_1 : Bool), v12 = .bool x12_1 ∧ Aside0 (doorkeeperlaw2_Great.j1 kq l0 x3_1 x12_1 = some r) ∧ Aside0 (kq ≤ k1) ∧ Drawn0 w wc)
      case first =>
        have H := HC2.out
        clear HC2
        by_cases c3 : x3_1 < (l0.length : Int)
        · rw [if_pos c3] at H
          have c3b0 : decide (x3_1 < (l0.length : Int)) = true := decide_eq_true c3
          clear c3
          (first | rw [c3b0] | (simp only [i64_w, i32_w]; rw [c3b0]) | skip)
          have H' := Aside0.mk H
          clear H
          go_wp2
          go_meet
          case rel => exact ⟨_, (decide (x3_1 < 100)), (by first | rfl | (simp; done) | (simp [*]; done)), H', ⟨by have := HK1.out; first | omega | exact Nat.le_refl _⟩, by repeat (first | exact Drawn0.refl _ | apply Drawn0.step)⟩
        · rw [if_neg c3] at H
          have c3b0 : decide (x3_1 < (l0.length : Int)) = false := decide_eq_false c3
          clear c3
          (first | rw [c3b0] | (simp only [i64_w, i32_w]; rw [c3b0]) | skip)
          have H' := Aside0.mk H
          clear H
          go_wp2
          go_meet
          case rel => exact ⟨_, (false), (by first | rfl | (simp; done) | (simp [*]; done)), H', ⟨by have := HK1.out; first | omega | exact Nat.le_refl _⟩, by repeat (first | exact Drawn0.refl _ | apply Drawn0.step)⟩
      case rest =>
        clear HC2
        try clear p2
        try clear c3
        try clear c3b0
        obtain ⟨kq, x12_1, rfl, HA, HJ1, ⟨mc1, rfl⟩⟩ := hcut
        cases kq with
        | zero => exact absurd HA.out (by simp [doorkeeperlaw2_Great.j1])
        | succ kj1 =>
          have H := HA.out
          clear HA
          simp only [doorkeeperlaw2_Great.j1] at H
          by_cases c4 : x12_1 = true
          · subst c4
            have H1 : (if 0 ≤ x3_1 then (if x3_1 < (l0.length : Int) then (if (((rd_T47 l0 x3_1).f4).length : Int) > 100 then (doorkeeperlaw2_Great.j2 kj1 l0 x3_1 true) else (if (((rd_T47 l0 x3_1).f2).size : Int) > 300 then (doorkeeperlaw2_Great.j2 kj1 l0 x3_1 true) else (doorkeeperlaw2_Great.j2 kj1 l0 x3_1 (decide ((((rd_T47 l0 x3_1).f3).length : Int) > 60))))) else (none)) else (none)) = some r := by rw [if_pos rfl] at H; exact H
            clear H
            have H := H1
            clear H1
            have HC5 := Aside0.mk H
            clear H
            go_upto_region 4 with (fail)
            go_cut [39] (fun v39 wc => ∃ (kq : Nat) (x39_4 : Bool), v39 = .bool x39_4 ∧ Aside0 (doorkeeperlaw2_Great.j2 kq l0 x3_1 x39_4 = some r) ∧ Aside0 (kq ≤ kj1) ∧ Drawn0 w wc)
            case first =>
              have H := HC5.out
              clear HC5
              by_cases c6 : 0 ≤ x3_1
              · rw [if_pos c6] at H
                have c6b0 : decide (0 ≤ x3_1) = true := decide_eq_true c6
                clear c6
                (first | rw [c6b0] | (simp only [i64_w, i32_w]; rw [c6b0]) | skip)
                by_cases c7 : x3_1 < (l0.length : Int)
                · rw [if_pos c7] at H
                  have c7b0 : decide (x3_1 < (l0.length : Int)) = true := decide_eq_true c7
                  clear c7
                  by_cases c8 : (((rd_T47 l0 x3_1).f4).length : Int) > 100
                  · rw [if_pos c8] at H
                    have c8b0 : decide (100 < (((rd_T47 l0 x3_1).f4).length : Int)) = true := decide_eq_true c8
                    have c8b1 : decide (100 < ((rd_T47 l0 x3_1).f4).length) = true := decide_eq_true (by omega)
                    clear c8
                    have H' := Aside0.mk H
                    clear H
                    have p101 : 0 ≤ (x3_1 : Int) := of_decide_eq_true (by first | (with_reducible assumption) | assumption)
                    have q101 : x3_1 < (l0.length : Int) := of_decide_eq_true (by first | (with_reducible assumption) | assumption)
                    obtain ⟨ad101, A101_3, c101_3, A101_4, c101_4, e101, hx101_0, hx101_1, hx101_2, hx101_3, hx101_4, hl101_3, hi101_3, hl101_4, hi101_4⟩ := at_T47 HR0.out x3_1 p101 q101
                    cases e101
                    have HR101_3 := Aside0.mk hi101_3
                    have HC101_3 := Aside0.mk hl101_3
                    clear hi101_3 hl101_3
                    have HR101_4 := Aside0.mk hi101_4
                    have HC101_4 := Aside0.mk hl101_4
                    clear hi101_4 hl101_4
                    replace p101 := eq_true p101
                    replace q101 := eq_true q101
                    go_wp2
                    go_meet
                    case rel => exact ⟨_, (true), (by first | rfl | (simp; done) | (simp [*]; done)), H', ⟨by have := HK1.out; have := HJ1.out; first | omega | exact Nat.le_refl _⟩, by repeat (first | exact Drawn0.refl _ | apply Drawn0.step)⟩
                  · rw [if_neg c8] at H
                    have c8b0 : decide (100 < (((rd_T47 l0 x3_1).f4).length : Int)) = false := decide_eq_false c8
                    have c8b1 : decide (100 < ((rd_T47 l0 x3_1).f4).length) = false := decide_eq_false (by omega)
                    clear c8
                    by_cases c9 : (((rd_T47 l0 x3_1).f2).size : Int) > 300
                    · rw [if_pos c9] at H
                      have c9b0 : decide (300 < (((rd_T47 l0 x3_1).f2).size : Int)) = true := decide_eq_true c9
                      have c9b1 : decide (300 < ((rd_T47 l0 x3_1).f2).size) = true := decide_eq_true (by omega)
                      clear c9
                      have H' := Aside0.mk H
                      clear H
                      have p101 : 0 ≤ (x3_1 : Int) := of_decide_eq_true (by first | (with_reducible assumption) | assumption)
                      have q101 : x3_1 < (l0.length : Int) := of_decide_eq_true (by first | (with_reducible assumption) | assumption)
                      obtain ⟨ad101, A101_3, c101_3, A101_4, c101_4, e101, hx101_0, hx101_1, hx101_2, hx101_3, hx101_4, hl101_3, hi101_3, hl101_4, hi101_4⟩ := at_T47 HR0.out x3_1 p101 q101
                      cases e101
                      have HR101_3 := Aside0.mk hi101_3
                      have HC101_3 := Aside0.mk hl101_3
                      clear hi101_3 hl101_3
                      have HR101_4 := Aside0.mk hi101_4
                      have HC101_4 := Aside0.mk hl101_4
                      clear hi101_4 hl101_4
                      replace p101 := eq_true p101
                      replace q101 := eq_true q101
                      have p102 : 0 ≤ (x3_1 : Int) := of_decide_eq_true (by first | (with_reducible assumption) | assumption)
                      have q102 : x3_1 < (l0.length : Int) := of_decide_eq_true (by first | (with_reducible assumption) | assumption)
                      obtain ⟨ad102, A102_3, c102_3, A102_4, c102_4, e102, hx102_0, hx102_1, hx102_2, hx102_3, hx102_4, hl102_3, hi102_3, hl102_4, hi102_4⟩ := at_T47 HR0.out x3_1 p102 q102
                      obtain rfl : ad101 = ad102 := (by injection e102)
                      have HR102_3 := Aside0.mk hi102_3
                      have HC102_3 := Aside0.mk hl102_3
                      clear hi102_3 hl102_3
                      have HR102_4 := Aside0.mk hi102_4
                      have HC102_4 := Aside0.mk hl102_4
                      clear hi102_4 hl102_4
                      replace p102 := eq_true p102
                      replace q102 := eq_true q102
                      have ea_ := Option.some.inj (hx101_3.symm.trans hx102_3)
                      injection ea_ with ea_ en_ ec_
                      subst ea_
                      subst ec_
                      clear en_
                      have ea_ := Option.some.inj (hx101_4.symm.trans hx102_4)
                      injection ea_ with ea_ en_ ec_
                      subst ea_
                      subst ec_
                      clear en_
                      go_wp2
                      go_meet
                      case rel => exact ⟨_, (true), (by first | rfl | (simp; done) | (simp [*]; done)), H', ⟨by have := HK1.out; have := HJ1.out; first | omega | exact Nat.le_refl _⟩, by repeat (first | exact Drawn0.refl _ | apply Drawn0.step)⟩
                    · rw [if_neg c9] at H
                      have c9b0 : decide (300 < (((rd_T47 l0 x3_1).f2).size : Int)) = false := decide_eq_false c9
                      have c9b1 : decide (300 < ((rd_T47 l0 x3_1).f2).size) = false := decide_eq_false (by omega)
                      clear c9
                      have H' := Aside0.mk H
                      clear H
                      have p101 : 0 ≤ (x3_1 : Int) := of_decide_eq_true (by first | (with_reducible assumption) | assumption)
                      have q101 : x3_1 < (l0.length : Int) := of_decide_eq_true (by first | (with_reducible assumption) | assumption)
                      obtain ⟨ad101, A101_3, c101_3, A101_4, c101_4, e101, hx101_0, hx101_1, hx101_2, hx101_3, hx101_4, hl101_3, hi101_3, hl101_4, hi101_4⟩ := at_T47 HR0.out x3_1 p101 q101
                      cases e101
                      have HR101_3 := Aside0.mk hi101_3
                      have HC101_3 := Aside0.mk hl101_3
                      clear hi101_3 hl101_3
                      have HR101_4 := Aside0.mk hi101_4
                      have HC101_4 := Aside0.mk hl101_4
                      clear hi101_4 hl101_4
                      replace p101 := eq_true p101
                      replace q101 := eq_true q101
                      have p102 : 0 ≤ (x3_1 : Int) := of_decide_eq_true (by first | (with_reducible assumption) | assumption)
                      have q102 : x3_1 < (l0.length : Int) := of_decide_eq_true (by first | (with_reducible assumption) | assumption)
                      obtain ⟨ad102, A102_3, c102_3, A102_4, c102_4, e102, hx102_0, hx102_1, hx102_2, hx102_3, hx102_4, hl102_3, hi102_3, hl102_4, hi102_4⟩ := at_T47 HR0.out x3_1 p102 q102
                      obtain rfl : ad101 = ad102 := (by injection e102)
                      have HR102_3 := Aside0.mk hi102_3
                      have HC102_3 := Aside0.mk hl102_3
                      clear hi102_3 hl102_3
                      have HR102_4 := Aside0.mk hi102_4
                      have HC102_4 := Aside0.mk hl102_4
                      clear hi102_4 hl102_4
                      replace p102 := eq_true p102
                      replace q102 := eq_true q102
                      have ea_ := Option.some.inj (hx101_3.symm.trans hx102_3)
                      injection ea_ with ea_ en_ ec_
                      subst ea_
                      subst ec_
                      clear en_
                      have ea_ := Option.some.inj (hx101_4.symm.trans hx102_4)
                      injection ea_ with ea_ en_ ec_
                      subst ea_
                      subst ec_
                      clear en_
                      have p103 : 0 ≤ (x3_1 : Int) := of_decide_eq_true (by first | (with_reducible assumption) | assumption)
                      have q103 : x3_1 < (l0.length : Int) := of_decide_eq_true (by first | (with_reducible assumption) | assumption)
                      obtain ⟨ad103, A103_3, c103_3, A103_4, c103_4, e103, hx103_0, hx103_1, hx103_2, hx103_3, hx103_4, hl103_3, hi103_3, hl103_4, hi103_4⟩ := at_T47 HR0.out x3_1 p103 q103
                      obtain rfl : ad101 = ad103 := (by injection e103)
                      have HR103_3 := Aside0.mk hi103_3
                      have HC103_3 := Aside0.mk hl103_3
                      clear hi103_3 hl103_3
                      have HR103_4 := Aside0.mk hi103_4
                      have HC103_4 := Aside0.mk hl103_4
                      clear hi103_4 hl103_4
                      replace p103 := eq_true p103
                      replace q103 := eq_true q103
                      have ea_ := Option.some.inj (hx101_3.symm.trans hx103_3)
                      injection ea_ with ea_ en_ ec_
                      subst ea_
                      subst ec_
                      clear en_
                      have ea_ := Option.some.inj (hx101_4.symm.trans hx103_4)
                      injection ea_ with ea_ en_ ec_
                      subst ea_
                      subst ec_
                      clear en_
                      go_wp2
                      go_meet
                      case rel => exact ⟨_, (decide ((((rd_T47 l0 x3_1).f3).length : Int) > 60)), (by first | rfl | (simp; done) | (simp [*]; done)), H', ⟨by have := HK1.out; have := HJ1.out; first | omega | exact Nat.le_refl _⟩, by repeat (first | exact Drawn0.refl _ | apply Drawn0.step)⟩
                · rw [if_neg c7] at H
                  exact absurd H (by simp)
              · rw [if_neg c6] at H
                exact absurd H (by simp)
            case rest =>
              clear HC5
              try clear c1
              try clear p1
              try clear q1
              try clear hx1
              try clear p2
              try clear c3
              try clear c3b0
              try clear c4
              try clear c6
              try clear c6b0
              try clear c7
              try clear c7b0
              try clear c8
              try clear c8b0
              try clear c8b1
              try clear c9
              try clear c9b0
              try clear c9b1
              try clear hx101_0
              try clear hx101_1
              try clear hx101_2
              try clear hx101_3
              try clear hx101_4
              try clear hx102_0
              try clear hx102_1
              try clear hx102_2
              try clear hx102_3
              try clear hx102_4
              try clear hx103_0
              try clear hx103_1
              try clear hx103_2
              try clear hx103_3
              try clear hx103_4
              try clear p101
              try clear p102
              try clear p103
              try clear p2
              try clear q101
              try clear q102
              try clear q103
              obtain ⟨kq, x39_4, rfl, HA, HJ4, ⟨mc4, rfl⟩⟩ := hcut
              cases kq with
              | zero => exact absurd HA.out (by simp [doorkeeperlaw2_Great.j2])
              | succ kj4 =>
                have H := HA.out
                clear HA
                simp only [doorkeeperlaw2_Great.j2] at H
                by_cases c10 : x39_4 = true
                · subst c10
                  have H1 : (some true) = some r := by rw [if_pos rfl] at H; exact H
                  clear H
                  have H := H1
                  clear H1
                  obtain rfl := Option.some.inj H
                  go_wp2
                  go_ret
                  exact ⟨by first | rfl | (simp; done) | (simp [*]; done), by repeat (first | exact Drawn0.refl _ | apply Drawn0.step)⟩
                · replace c10 := Bool.eq_false_iff.mpr c10
                  subst c10
                  have H1 : (doorkeeperlaw2_Great.l1 kj4 l0 x3_1 0) = some r := by rw [if_neg (show ¬ (false = true) by decide)] at H; exact H
                  clear H
                  have H := H1
                  clear H1
                  have H' := Aside0.mk H
                  clear H
                  go_wp2
                  go_loopg [4] kj4 (fun kq v4 w' => ∃ (x4_4 : Int), v4 = .int .i64 x4_4 ∧ Aside0 (doorkeeperlaw2_Great.l1 kq l0 x3_1 x4_4 = some r) ∧ Aside0 (kq ≤ kj4) ∧ Drawn0 w w')
                  case atStart => exact ⟨(0), (by first | rfl | (simp; done) | (simp [*]; done)), H', ⟨Nat.le_refl _⟩, by repeat (first | exact Drawn0.refl _ | apply Drawn0.step)⟩
                  case round =>
                    clear H'
                    try clear c1
                    try clear p1
                    try clear q1
                    try clear hx1
                    try clear p2
                    try clear c3
                    try clear c3b0
                    try clear c4
                    try clear c6
                    try clear c6b0
                    try clear c7
                    try clear c7b0
                    try clear c8
                    try clear c8b0
                    try clear c8b1
                    try clear c9
                    try clear c9b0
                    try clear c9b1
                    try clear c10
                    try clear p10
                    try clear q10
                    try clear hx10
                    try clear hx101_0
                    try clear hx101_1
                    try clear hx101_2
                    try clear hx101_3
                    try clear hx101_4
                    try clear hx102_0
                    try clear hx102_1
                    try clear hx102_2
                    try clear hx102_3
                    try clear hx102_4
                    try clear hx103_0
                    try clear hx103_1
                    try clear hx103_2
                    try clear hx103_3
                    try clear hx103_4
                    try clear p1
                    try clear p101
                    try clear p102
                    try clear p103
                    try clear p2
                    try clear q1
                    try clear q101
                    try clear q102
                    try clear q103
                    obtain ⟨x4_4, rfl, HA, HK4, ⟨m4, rfl⟩⟩ := hrel
                    cases gk with
                    | zero => exact absurd HA.out (by simp [doorkeeperlaw2_Great.l1])
                    | succ k4 =>
                      have H := HA.out
                      clear HA
                      simp only [doorkeeperlaw2_Great.l1] at H
                      by_cases c11 : 0 ≤ x3_1
                      · rw [if_pos c11] at H
                        have c11b0 : decide (0 ≤ x3_1) = true := decide_eq_true c11
                        clear c11
                        by_cases c12 : x3_1 < (l0.length : Int)
                        · rw [if_pos c12] at H
                          have c12b0 : decide (x3_1 < (l0.length : Int)) = true := decide_eq_true c12
                          clear c12
                          by_cases c13 : x4_4 < (((rd_T47 l0 x3_1).f3).length : Int)
                          · rw [if_pos c13] at H
                            have c13b0 : decide (x4_4 < (((rd_T47 l0 x3_1).f3).length : Int)) = true := decide_eq_true c13
                            clear c13
                            by_cases c14 : 0 ≤ x4_4
                            · rw [if_pos c14] at H
                              have c14b0 : decide (0 ≤ x4_4) = true := decide_eq_true c14
                              clear c14
                              by_cases c15 : (((rd_T51 ((rd_T47 l0 x3_1).f3) x4_4).f1).size : Int) > 300
                              · rw [if_pos c15] at H
                                have c15b0 : decide (300 < (((rd_T51 ((rd_T47 l0 x3_1).f3) x4_4).f1).size : Int)) = true := decide_eq_true c15
                                have c15b1 : decide (300 < ((rd_T51 ((rd_T47 l0 x3_1).f3) x4_4).f1).size) = true := decide_eq_true (by omega)
                                clear c15
                                obtain rfl := Option.some.inj H
                                have p104 : 0 ≤ (x3_1 : Int) := of_decide_eq_true (by first | (with_reducible assumption) | assumption)
                                have q104 : x3_1 < (l0.length : Int) := of_decide_eq_true (by first | (with_reducible assumption) | assumption)
                                obtain ⟨ad104, A104_3, c104_3, A104_4, c104_4, e104, hx104_0, hx104_1, hx104_2, hx104_3, hx104_4, hl104_3, hi104_3, hl104_4, hi104_4⟩ := at_T47 HR0.out x3_1 p104 q104
                                cases e104
                                have HR104_3 := Aside0.mk hi104_3
                                have HC104_3 := Aside0.mk hl104_3
                                clear hi104_3 hl104_3
                                have HR104_4 := Aside0.mk hi104_4
                                have HC104_4 := Aside0.mk hl104_4
                                clear hi104_4 hl104_4
                                replace p104 := eq_true p104
                                replace q104 := eq_true q104
                                have p105 : 0 ≤ (x3_1 : Int) := of_decide_eq_true (by first | (with_reducible assumption) | assumption)
                                have q105 : x3_1 < (l0.length : Int) := of_decide_eq_true (by first | (with_reducible assumption) | assumption)
                                obtain ⟨ad105, A105_3, c105_3, A105_4, c105_4, e105, hx105_0, hx105_1, hx105_2, hx105_3, hx105_4, hl105_3, hi105_3, hl105_4, hi105_4⟩ := at_T47 HR0.out x3_1 p105 q105
                                obtain rfl : ad104 = ad105 := (by injection e105)
                                have HR105_3 := Aside0.mk hi105_3
                                have HC105_3 := Aside0.mk hl105_3
                                clear hi105_3 hl105_3
                                have HR105_4 := Aside0.mk hi105_4
                                have HC105_4 := Aside0.mk hl105_4
                                clear hi105_4 hl105_4
                                replace p105 := eq_true p105
                                replace q105 := eq_true q105
                                have ea_ := Option.some.inj (hx104_3.symm.trans hx105_3)
                                injection ea_ with ea_ en_ ec_
                                subst ea_
                                subst ec_
                                clear en_
                                have ea_ := Option.some.inj (hx104_4.symm.trans hx105_4)
                                injection ea_ with ea_ en_ ec_
                                subst ea_
                                subst ec_
                                clear en_
                                have p106 : 0 ≤ (x4_4 : Int) := of_decide_eq_true (by first | (with_reducible assumption) | assumption)
                                have q106 : x4_4 < (((rd_T47 l0 x3_1).f3).length : Int) := of_decide_eq_true (by first | (with_reducible assumption) | assumption)
                                obtain ⟨ad106, e106, hx106_0, hx106_1⟩ := at_T51 HR105_3.out x4_4 p106 q106
                                cases e106
                                replace p106 := eq_true p106
                                replace q106 := eq_true q106
                                go_wp2
                                go_ret
                                exact ⟨by first | rfl | (simp; done) | (simp [*]; done), by repeat (first | exact Drawn0.refl _ | apply Drawn0.step)⟩
                              · rw [if_neg c15] at H
                                have c15b0 : decide (300 < (((rd_T51 ((rd_T47 l0 x3_1).f3) x4_4).f1).size : Int)) = false := decide_eq_false c15
                                have c15b1 : decide (300 < ((rd_T51 ((rd_T47 l0 x3_1).f3) x4_4).f1).size) = false := decide_eq_false (by omega)
                                clear c15
                                have H' := Aside0.mk H
                                clear H
                                have p104 : 0 ≤ (x3_1 : Int) := of_decide_eq_true (by first | (with_reducible assumption) | assumption)
                                have q104 : x3_1 < (l0.length : Int) := of_decide_eq_true (by first | (with_reducible assumption) | assumption)
                                obtain ⟨ad104, A104_3, c104_3, A104_4, c104_4, e104, hx104_0, hx104_1, hx104_2, hx104_3, hx104_4, hl104_3, hi104_3, hl104_4, hi104_4⟩ := at_T47 HR0.out x3_1 p104 q104
                                cases e104
                                have HR104_3 := Aside0.mk hi104_3
                                have HC104_3 := Aside0.mk hl104_3
                                clear hi104_3 hl104_3
                                have HR104_4 := Aside0.mk hi104_4
                                have HC104_4 := Aside0.mk hl104_4
                                clear hi104_4 hl104_4
                                replace p104 := eq_true p104
                                replace q104 := eq_true q104
                                have p105 : 0 ≤ (x3_1 : Int) := of_decide_eq_true (by first | (with_reducible assumption) | assumption)
                                have q105 : x3_1 < (l0.length : Int) := of_decide_eq_true (by first | (with_reducible assumption) | assumption)
                                obtain ⟨ad105, A105_3, c105_3, A105_4, c105_4, e105, hx105_0, hx105_1, hx105_2, hx105_3, hx105_4, hl105_3, hi105_3, hl105_4, hi105_4⟩ := at_T47 HR0.out x3_1 p105 q105
                                obtain rfl : ad104 = ad105 := (by injection e105)
                                have HR105_3 := Aside0.mk hi105_3
                                have HC105_3 := Aside0.mk hl105_3
                                clear hi105_3 hl105_3
                                have HR105_4 := Aside0.mk hi105_4
                                have HC105_4 := Aside0.mk hl105_4
                                clear hi105_4 hl105_4
                                replace p105 := eq_true p105
                                replace q105 := eq_true q105
                                have ea_ := Option.some.inj (hx104_3.symm.trans hx105_3)
                                injection ea_ with ea_ en_ ec_
                                subst ea_
                                subst ec_
                                clear en_
                                have ea_ := Option.some.inj (hx104_4.symm.trans hx105_4)
                                injection ea_ with ea_ en_ ec_
                                subst ea_
                                subst ec_
                                clear en_
                                have p106 : 0 ≤ (x4_4 : Int) := of_decide_eq_true (by first | (with_reducible assumption) | assumption)
                                have q106 : x4_4 < (((rd_T47 l0 x3_1).f3).length : Int) := of_decide_eq_true (by first | (with_reducible assumption) | assumption)
                                obtain ⟨ad106, e106, hx106_0, hx106_1⟩ := at_T51 HR105_3.out x4_4 p106 q106
                                cases e106
                                replace p106 := eq_true p106
                                replace q106 := eq_true q106
                                go_wp2
                                go_roundg k4
                                case measure => have := HK1.out; have := HJ1.out; have := HJ4.out; have := HK4.out; omega
                                case rel => exact ⟨(wrap64 (x4_4 + 1)), (by first | rfl | (simp; done) | (simp [*]; done)), H', ⟨by have := HK1.out; have := HJ1.out; have := HJ4.out; have := HK4.out; omega⟩, by repeat (first | exact Drawn0.refl _ | apply Drawn0.step)⟩
                            · rw [if_neg c14] at H
                              exact absurd H (by simp)
                          · rw [if_neg c13] at H
                            have c13b0 : decide (x4_4 < (((rd_T47 l0 x3_1).f3).length : Int)) = false := decide_eq_false c13
                            clear c13
                            have H' := Aside0.mk H
                            clear H
                            have p104 : 0 ≤ (x3_1 : Int) := of_decide_eq_true (by first | (with_reducible assumption) | assumption)
                            have q104 : x3_1 < (l0.length : Int) := of_decide_eq_true (by first | (with_reducible assumption) | assumption)
                            obtain ⟨ad104, A104_3, c104_3, A104_4, c104_4, e104, hx104_0, hx104_1, hx104_2, hx104_3, hx104_4, hl104_3, hi104_3, hl104_4, hi104_4⟩ := at_T47 HR0.out x3_1 p104 q104
                            cases e104
                            have HR104_3 := Aside0.mk hi104_3
                            have HC104_3 := Aside0.mk hl104_3
                            clear hi104_3 hl104_3
                            have HR104_4 := Aside0.mk hi104_4
                            have HC104_4 := Aside0.mk hl104_4
                            clear hi104_4 hl104_4
                            replace p104 := eq_true p104
                            replace q104 := eq_true q104
                            go_wp2
                            go_roundg k4
                            case measure => have := HK1.out; have := HJ1.out; have := HJ4.out; have := HK4.out; omega
                            case rel => exact ⟨(wrap64 (x3_1 + 1)), (by first | rfl | (simp; done) | (simp [*]; done)), H', ⟨by have := HK1.out; have := HJ1.out; have := HJ4.out; have := HK4.out; omega⟩, by repeat (first | exact Drawn0.refl _ | apply Drawn0.step)⟩
                        · rw [if_neg c12] at H
                          exact absurd H (by simp)
                      · rw [if_neg c11] at H
                        exact absurd H (by simp)
          · replace c4 := Bool.eq_false_iff.mpr c4
            subst c4
            have H1 : (some (decide ((l0.length : Int) > 80))) = some r := by rw [if_neg (show ¬ (false = true) by decide)] at H; exact H
            clear H
            have H := H1
            clear H1
            obtain rfl := Option.some.inj H
            go_wp2
            go_ret
            exact ⟨by first | rfl | (simp; done) | (simp [*]; done), by repeat (first | exact Drawn0.refl _ | apply Drawn0.step)⟩

end Go.Proofs.Ytbmjdkbakeckoaa.PRefsAll
