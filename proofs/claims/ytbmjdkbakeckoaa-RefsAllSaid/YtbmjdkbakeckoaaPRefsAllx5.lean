-- PRINTED BY print.sh 35421559b90ae4d0a3588c463048766b98c2df88dd9212a6774a882060cdf62d: not written by this session
import Derived.Test.YtbmjdkbakeckoaaPRefsAllx0
import Derived.Test.YtbmjdkbakeckoaaPRefsAllx4
namespace Go.Proofs.Ytbmjdkbakeckoaa.PRefsAll
open Go.RowKit Go.Proofs.YtbmjdkbakeckoaaW.PrintWords Go.Proofs.YtbmjdkbakeckoaaW.PrintLast Go.Proofs.YtbmjdkbakeckoaaW.PrintMore
attribute [local go_sem] max2_int min2_int max_two min_two max_three min_three max_four min_four   -- for this text's walks alone
set_option linter.unusedVariables false
set_option linter.unusedSimpArgs false

/-! ### doorkeeperref1_mayParts: function 47 -/
mutual
def doorkeeperref1_mayParts.l0 : Nat → List (S51) → Int → Option (Bool)
  | 0, _, _ => none
  | k + 1, x0, x3 => if x3 < (x0.length : Int) then (if 0 ≤ x3 then (if (rd_T51 x0 x3).f0 = true then ((doorkeeperref1_Dotted.f k ((rd_T51 x0 x3).f1)).bind fun t135 => (if t135 = true then (doorkeeperref1_mayParts.l0 k x0 (wrap64 (x3 + 1))) else (some false))) else (if ((rd_T51 x0 x3).f1).toList = ([] : List UInt8) then (doorkeeperref1_mayParts.j1 k x0 x3 true) else (if x3 > 0 then (if 0 ≤ (wrap64 (x3 - 1)) then (if (wrap64 (x3 - 1)) < (x0.length : Int) then (doorkeeperref1_mayParts.j1 k x0 x3 (!((rd_T51 x0 (wrap64 (x3 - 1))).f0))) else (none)) else (none)) else (doorkeeperref1_mayParts.j1 k x0 x3 false)))) else (none)) else (some true)
def doorkeeperref1_mayParts.j1 : Nat → List (S51) → Int → Bool → Option (Bool)
  | 0, _, _, _ => none
  | k + 1, x0, x3, x41 => if x41 = true then (some false) else (doorkeeperref1_mayParts.l1 k x0 x3 0)
def doorkeeperref1_mayParts.l1 : Nat → List (S51) → Int → Int → Option (Bool)
  | 0, _, _, _ => none
  | k + 1, x0, x3, x4 => if 0 ≤ x3 then (if x3 < (x0.length : Int) then (if x4 < (((rd_T51 x0 x3).f1).size : Int) then (if 0 ≤ x4 then (if (bt ((rd_T51 x0 x3).f1) x4) < 32 then (if (bt ((rd_T51 x0 x3).f1) x4) = 10 then (doorkeeperref1_mayParts.l1 k x0 x3 (wrap64 (x4 + 1))) else (some false)) else (doorkeeperref1_mayParts.l1 k x0 x3 (wrap64 (x4 + 1)))) else (none)) else (doorkeeperref1_mayParts.l0 k x0 (wrap64 (x3 + 1)))) else (none)) else (none)
end
def doorkeeperref1_mayParts.f (k : Nat) (l0 : List (S51)) : Option (Bool) := doorkeeperref1_mayParts.l0 k l0 0
theorem doorkeeperref1_mayParts.mono_l : ∀ k, (∀ y0 y1, LeO (doorkeeperref1_mayParts.l0 k y0 y1) (doorkeeperref1_mayParts.l0 (k + 1) y0 y1)) ∧ (∀ y0 y1 y2, LeO (doorkeeperref1_mayParts.j1 k y0 y1 y2) (doorkeeperref1_mayParts.j1 (k + 1) y0 y1 y2)) ∧ (∀ y0 y1 y2, LeO (doorkeeperref1_mayParts.l1 k y0 y1 y2) (doorkeeperref1_mayParts.l1 (k + 1) y0 y1 y2))
  | 0 => ⟨fun _ _ r h => by simp [doorkeeperref1_mayParts.l0] at h, fun _ _ _ r h => by simp [doorkeeperref1_mayParts.j1] at h, fun _ _ _ r h => by simp [doorkeeperref1_mayParts.l1] at h⟩
  | k + 1 => by
    obtain ⟨ih0, ih1, ih2⟩ := doorkeeperref1_mayParts.mono_l k
    refine ⟨?_, ?_, ?_⟩
    · intro y0 y1
      unfold doorkeeperref1_mayParts.l0
      repeat' first
      | (with_reducible exact ih0 _ _)
      | (with_reducible exact ih1 _ _ _)
      | (with_reducible exact ih2 _ _ _)
      | (with_reducible exact doorkeeperref1_Dotted.mono _ _)
      | (with_reducible exact LeO.refl _)
      | (with_reducible exact LeO.none _)
      | (with_reducible refine LeO.ite ?_ ?_)
      | (with_reducible refine LeO.bind ?_ (fun _ => ?_))
      | exact ih0 _ _
      | exact ih1 _ _ _
      | exact ih2 _ _ _
      | exact doorkeeperref1_Dotted.mono _ _
      | exact LeO.none _
      | refine LeO.ite ?_ ?_
      | refine LeO.bind ?_ (fun _ => ?_)
    · intro y0 y1 y2
      unfold doorkeeperref1_mayParts.j1
      repeat' first
      | (with_reducible exact ih0 _ _)
      | (with_reducible exact ih1 _ _ _)
      | (with_reducible exact ih2 _ _ _)
      | (with_reducible exact doorkeeperref1_Dotted.mono _ _)
      | (with_reducible exact LeO.refl _)
      | (with_reducible exact LeO.none _)
      | (with_reducible refine LeO.ite ?_ ?_)
      | (with_reducible refine LeO.bind ?_ (fun _ => ?_))
      | exact ih0 _ _
      | exact ih1 _ _ _
      | exact ih2 _ _ _
      | exact doorkeeperref1_Dotted.mono _ _
      | exact LeO.none _
      | refine LeO.ite ?_ ?_
      | refine LeO.bind ?_ (fun _ => ?_)
    · intro y0 y1 y2
      unfold doorkeeperref1_mayParts.l1
      repeat' first
      | (with_reducible exact ih0 _ _)
      | (with_reducible exact ih1 _ _ _)
      | (with_reducible exact ih2 _ _ _)
      | (with_reducible exact doorkeeperref1_Dotted.mono _ _)
      | (with_reducible exact LeO.refl _)
      | (with_reducible exact LeO.none _)
      | (with_reducible refine LeO.ite ?_ ?_)
      | (with_reducible refine LeO.bind ?_ (fun _ => ?_))
      | exact ih0 _ _
      | exact ih1 _ _ _
      | exact ih2 _ _ _
      | exact doorkeeperref1_Dotted.mono _ _
      | exact LeO.none _
      | refine LeO.ite ?_ ?_
      | refine LeO.bind ?_ (fun _ => ?_)
theorem doorkeeperref1_mayParts.mono : ∀ a0 k, LeO (doorkeeperref1_mayParts.f k a0) (doorkeeperref1_mayParts.f (k + 1) a0) := by
  intro a0 k
  obtain ⟨ih0, ih1, ih2⟩ := doorkeeperref1_mayParts.mono_l k
  unfold doorkeeperref1_mayParts.f
  repeat' first
      | (with_reducible exact ih0 _ _)
      | (with_reducible exact ih1 _ _ _)
      | (with_reducible exact ih2 _ _ _)
      | (with_reducible exact doorkeeperref1_Dotted.mono _ _)
      | (with_reducible exact LeO.refl _)
      | (with_reducible exact LeO.none _)
      | (with_reducible refine LeO.ite ?_ ?_)
      | (with_reducible refine LeO.bind ?_ (fun _ => ?_))
      | exact ih0 _ _
      | exact ih1 _ _ _
      | exact ih2 _ _ _
      | exact doorkeeperref1_Dotted.mono _ _
      | exact LeO.none _
      | refine LeO.ite ?_ ?_
      | refine LeO.bind ?_ (fun _ => ?_)
set_option maxHeartbeats 8000000 in
set_option maxRecDepth 100000 in
theorem doorkeeperref1_mayParts.calls (k : Nat) (A0 : Option Addr) (c0 : Nat) (l0 : List (S51)) (r : Bool) (w : World) (hr0 : Kd.C k51 w A0 l0.length l0) (hc0 : l0.length ≤ c0) (h : doorkeeperref1_mayParts.f k l0 = some r) :
    Calls Try.prog 47 #[.slice A0 l0.length c0] w fun e w' => e = .returned (.bool r) ∧ Drawn0 w w' := by
  have HR0 := Aside0.mk hr0
  have HC0 := Aside0.mk hc0
  clear hr0 hc0
  have H : (doorkeeperref1_mayParts.l0 k l0 0) = some r := h
  clear h
  have H' := Aside0.mk H
  clear H
  go_enter Try.func47, Try.ntmps47
  go_wp2
  go_loopg [3] k (fun kq v3 w' => ∃ (x3_1 : Int), v3 = .int .i64 x3_1 ∧ Aside0 (doorkeeperref1_mayParts.l0 kq l0 x3_1 = some r) ∧ Aside0 (kq ≤ k) ∧ Drawn0 w w')
  case atStart => exact ⟨(0), (by first | rfl | (simp; done) | (simp [*]; done)), H', ⟨Nat.le_refl _⟩, by repeat (first | exact Drawn0.refl _ | apply Drawn0.step)⟩
  case round =>
    clear H'
    obtain ⟨x3_1, rfl, HA, HK1, ⟨m1, rfl⟩⟩ := hrel
    cases gk with
    | zero => exact absurd HA.out (by simp [doorkeeperref1_mayParts.l0])
    | succ k1 =>
      have H := HA.out
      clear HA
      simp only [doorkeeperref1_mayParts.l0] at H
      by_cases c2 : x3_1 < (l0.length : Int)
      · rw [if_pos c2] at H
        have c2b0 : decide (x3_1 < (l0.length : Int)) = true := decide_eq_true c2
        clear c2
        by_cases c3 : 0 ≤ x3_1
        · rw [if_pos c3] at H
          have c3b0 : decide (0 ≤ x3_1) = true := decide_eq_true c3
          clear c3
          obtain ⟨bq4, hbq4⟩ : ∃ b_ : Bool, b_ = ((rd_T51 l0 x3_1).f0) := ⟨_, rfl⟩
          replace H : (if bq4 = true then ((doorkeeperref1_Dotted.f k1 ((rd_T51 l0 x3_1).f1)).bind fun t135 => (if t135 = true then (doorkeeperref1_mayParts.l0 k1 l0 (wrap64 (x3_1 + 1))) else (some false))) else (if ((rd_T51 l0 x3_1).f1).toList = ([] : List UInt8) then (doorkeeperref1_mayParts.j1 k1 l0 x3_1 true) else (if x3_1 > 0 then (if 0 ≤ (wrap64 (x3_1 - 1)) then (if (wrap64 (x3_1 - 1)) < (l0.length : Int) then (doorkeeperref1_mayParts.j1 k1 l0 x3_1 (!((rd_T51 l0 (wrap64 (x3_1 - 1))).f0))) else (none)) else (none)) else (doorkeeperref1_mayParts.j1 k1 l0 x3_1 false)))) = some r := by rw [← hbq4] at H; exact H
          have Nbq4 := Aside0.mk hbq4
          clear hbq4
          by_cases c5 : bq4 = true
          · subst c5
            have H1 : ((doorkeeperref1_Dotted.f k1 ((rd_T51 l0 x3_1).f1)).bind fun t135 => (if t135 = true then (doorkeeperref1_mayParts.l0 k1 l0 (wrap64 (x3_1 + 1))) else (some false))) = some r := by rw [if_pos rfl] at H; exact H
            clear H
            have H := H1
            clear H1
            replace H := Option.bind_eq_some_iff.mp H
            obtain ⟨t135, A60, H⟩ := H
            replace H : (if t135 = true then (doorkeeperref1_mayParts.l0 k1 l0 (wrap64 (x3_1 + 1))) else (some false)) = some r := H
            have A6 := Aside0.mk A60
            clear A60
            by_cases c7 : t135 = true
            · subst c7
              have H1 : (doorkeeperref1_mayParts.l0 k1 l0 (wrap64 (x3_1 + 1))) = some r := by rw [if_pos rfl] at H; exact H
              clear H
              have H := H1
              clear H1
              have H' := Aside0.mk H
              clear H
              have p133 : 0 ≤ (x3_1 : Int) := of_decide_eq_true (by first | (with_reducible assumption) | assumption)
              have q133 : x3_1 < (l0.length : Int) := of_decide_eq_true (by first | (with_reducible assumption) | assumption)
              obtain ⟨ad133, e133, hx133_0, hx133_1⟩ := at_T51 HR0.out x3_1 p133 q133
              (try rw [← Nbq4.out] at hx133_0)
              cases e133
              replace p133 := eq_true p133
              replace q133 := eq_true q133
              have p134 : 0 ≤ (x3_1 : Int) := of_decide_eq_true (by first | (with_reducible assumption) | assumption)
              have q134 : x3_1 < (l0.length : Int) := of_decide_eq_true (by first | (with_reducible assumption) | assumption)
              obtain ⟨ad134, e134, hx134_0, hx134_1⟩ := at_T51 HR0.out x3_1 p134 q134
              (try rw [← Nbq4.out] at hx134_0)
              obtain rfl : ad133 = ad134 := (by injection e134)
              replace p134 := eq_true p134
              replace q134 := eq_true q134
              go_wp2_with (first | ((with_reducible refine gate_callee (f := 49) rfl ?_); refine goesL_ (some 21) rfl rfl Try.func49 (by kernel_rfl) rfl #[.string ((rd_T51 l0 x3_1).f1)] rfl (by (try simp only [List.map_toArray, List.map_cons, List.map_nil]); first | done | rfl | (simp only [List.length_drop, List.length_take]; rfl)) ?_; (with_reducible refine (doorkeeperref1_Dotted.calls k1 ((rd_T51 l0 x3_1).f1) true _ A6.out).mono ?_); rintro e w' ⟨rfl, ⟨nd, rfl⟩⟩; refine ⟨_, rfl, ?_⟩))
              go_roundg k1
              case measure => have := HK1.out; omega
              case rel => exact ⟨(wrap64 (x3_1 + 1)), (by first | rfl | (simp; done) | (simp [*]; done)), H', ⟨by have := HK1.out; omega⟩, by repeat (first | exact Drawn0.refl _ | apply Drawn0.step)⟩
            · replace c7 := Bool.eq_false_iff.mpr c7
              subst c7
              have H1 : (some false) = some r := by rw [if_neg (show ¬ (false = true) by decide)] at H; exact H
              clear H
              have H := H1
              clear H1
              obtain rfl := Option.some.inj H
              have p133 : 0 ≤ (x3_1 : Int) := of_decide_eq_true (by first | (with_reducible assumption) | assumption)
              have q133 : x3_1 < (l0.length : Int) := of_decide_eq_true (by first | (with_reducible assumption) | assumption)
              obtain ⟨ad133, e133, hx133_0, hx133_1⟩ := at_T51 HR0.out x3_1 p133 q133
              (try rw [← Nbq4.out] at hx133_0)
              cases e133
              replace p133 := eq_true p133
              replace q133 := eq_true q133
              have p134 : 0 ≤ (x3_1 : Int) := of_decide_eq_true (by first | (with_reducible assumption) | assumption)
              have q134 : x3_1 < (l0.length : Int) := of_decide_eq_true (by first | (with_reducible assumption) | assumption)
              obtain ⟨ad134, e134, hx134_0, hx134_1⟩ := at_T51 HR0.out x3_1 p134 q134
              (try rw [← Nbq4.out] at hx134_0)
              obtain rfl : ad133 = ad134 := (by injection e134)
              replace p134 := eq_true p134
              replace q134 := eq_true q134
              go_wp2_with (first | ((with_reducible refine gate_callee (f := 49) rfl ?_); refine goesL_ (some 21) rfl rfl Try.func49 (by kernel_rfl) rfl #[.string ((rd_T51 l0 x3_1).f1)] rfl (by (try simp only [List.map_toArray, List.map_cons, List.map_nil]); first | done | rfl | (simp only [List.length_drop, List.length_take]; rfl)) ?_; (with_reducible refine (doorkeeperref1_Dotted.calls k1 ((rd_T51 l0 x3_1).f1) false _ A6.out).mono ?_); rintro e w' ⟨rfl, ⟨nd, rfl⟩⟩; refine ⟨_, rfl, ?_⟩))
              go_ret
              exact ⟨by first | rfl | (simp; done) | (simp [*]; done), by repeat (first | exact Drawn0.refl _ | apply Drawn0.step)⟩
          · replace c5 := Bool.eq_false_iff.mpr c5
            subst c5
            have H1 : (if ((rd_T51 l0 x3_1).f1).toList = ([] : List UInt8) then (doorkeeperref1_mayParts.j1 k1 l0 x3_1 true) else (if x3_1 > 0 then (if 0 ≤ (wrap64 (x3_1 - 1)) then (if (wrap64 (x3_1 - 1)) < (l0.length : Int) then (doorkeeperref1_mayParts.j1 k1 l0 x3_1 (!((rd_T51 l0 (wrap64 (x3_1 - 1))).f0))) else (none)) else (none)) else (doorkeeperref1_mayParts.j1 k1 l0 x3_1 false))) = some r := by rw [if_neg (show ¬ (false = true) by decide)] at H; exact H
            clear H
            have H := H1
            clear H1
            have HC8 := Aside0.mk H
            clear H
            have p133 : 0 ≤ (x3_1 : Int) := of_decide_eq_true (by first | (with_reducible assumption) | assumption)
            have q133 : x3_1 < (l0.length : Int) := of_decide_eq_true (by first | (with_reducible assumption) | assumption)
            obtain ⟨ad133, e133, hx133_0, hx133_1⟩ := at_T51 HR0.out x3_1 p133 q133
            (try rw [← Nbq4.out] at hx133_0)
            cases e133
            replace p133 := eq_true p133
            replace q133 := eq_true q133
            go_upto_region 7 with (fail)
            go_cut [41] (fun v41 wc => ∃ (kq : Nat) (x41_7 : Bool), v41 = .bool x41_7 ∧ Aside0 (doorkeeperref1_mayParts.j1 kq l0 x3_1 x41_7 = some r) ∧ Aside0 (kq ≤ k1) ∧ Drawn0 w wc)
            case first =>
              have H := HC8.out
              clear HC8
              by_cases c9 : ((rd_T51 l0 x3_1).f1).toList = ([] : List UInt8)
              · rw [if_pos c9] at H
                have c9b0 : (((rd_T51 l0 x3_1).f1).toList == ([] : List UInt8)) = true := beq_iff_eq.mpr c9
                have c9b1 : (((rd_T51 l0 x3_1).f1).toList != ([] : List UInt8)) = false := bne_eq_false_iff_eq.mpr c9
                clear c9
                (first | rw [c9b0] | (simp only [i64_w, i32_w]; rw [c9b0]) | skip)
                have H' := Aside0.mk H
                clear H
                have p136 : 0 ≤ (x3_1 : Int) := of_decide_eq_true (by first | (with_reducible assumption) | assumption)
                have q136 : x3_1 < (l0.length : Int) := of_decide_eq_true (by first | (with_reducible assumption) | assumption)
                obtain ⟨ad136, e136, hx136_0, hx136_1⟩ := at_T51 HR0.out x3_1 p136 q136
                (try rw [← Nbq4.out] at hx136_0)
                obtain rfl : ad133 = ad136 := (by injection e136)
                replace p136 := eq_true p136
                replace q136 := eq_true q136
                go_wp2
                go_meet
                case rel => exact ⟨_, (true), (by first | rfl | (simp; done) | (simp [*]; done)), H', ⟨by have := HK1.out; first | omega | exact Nat.le_refl _⟩, by repeat (first | exact Drawn0.refl _ | apply Drawn0.step)⟩
              · rw [if_neg c9] at H
                have c9b0 : (((rd_T51 l0 x3_1).f1).toList == ([] : List UInt8)) = false := beq_eq_false_iff_ne.mpr c9
                have c9b1 : (((rd_T51 l0 x3_1).f1).toList != ([] : List UInt8)) = true := bne_iff_ne.mpr c9
                (first | rw [c9b0] | (simp only [i64_w, i32_w]; rw [c9b0]) | skip)
                by_cases c10 : x3_1 > 0
                · rw [if_pos c10] at H
                  have c10b0 : decide (0 < x3_1) = true := decide_eq_true c10
                  clear c10
                  obtain ⟨ji11, hji11⟩ : ∃ j_ : Int, (wrap64 (x3_1 - 1)) = j_ := ⟨_, rfl⟩
                  replace H : (if 0 ≤ (ji11) then (if (ji11) < (l0.length : Int) then (doorkeeperref1_mayParts.j1 k1 l0 x3_1 (!((rd_T51 l0 (ji11)).f0))) else (none)) else (none)) = some r := by first | (rw [hji11] at H; exact H) | (simp only [hji11] at H ⊢; exact H)
                  have hji11w : (IntKind.i64.wrap (x3_1 - 1)) = ji11 := (i64_w _).trans hji11
                  by_cases c12 : 0 ≤ (ji11)
                  · rw [if_pos c12] at H
                    have c12b0 : decide (0 ≤ (ji11)) = true := decide_eq_true c12
                    clear c12
                    by_cases c13 : (ji11) < (l0.length : Int)
                    · rw [if_pos c13] at H
                      have c13b0 : decide ((ji11) < (l0.length : Int)) = true := decide_eq_true c13
                      clear c13
                      have H' := Aside0.mk H
                      clear H
                      have p136 : 0 ≤ (x3_1 : Int) := of_decide_eq_true (by first | (with_reducible assumption) | assumption)
                      have q136 : x3_1 < (l0.length : Int) := of_decide_eq_true (by first | (with_reducible assumption) | assumption)
                      obtain ⟨ad136, e136, hx136_0, hx136_1⟩ := at_T51 HR0.out x3_1 p136 q136
                      (try rw [← Nbq4.out] at hx136_0)
                      obtain rfl : ad133 = ad136 := (by injection e136)
                      replace p136 := eq_true p136
                      replace q136 := eq_true q136
                      have p137 : 0 ≤ ((ji11) : Int) := of_decide_eq_true (by first | (with_reducible assumption) | assumption)
                      have q137 : (ji11) < (l0.length : Int) := of_decide_eq_true (by first | (with_reducible assumption) | assumption)
                      obtain ⟨ad137, e137, hx137_0, hx137_1⟩ := at_T51 HR0.out (ji11) p137 q137
                      (try rw [← Nbq4.out] at hx137_0)
                      obtain rfl : ad133 = ad137 := (by injection e137)
                      replace p137 := eq_true p137
                      replace q137 := eq_true q137
                      go_wp2
                      go_meet
                      case rel => exact ⟨_, (!((rd_T51 l0 (ji11)).f0)), (by first | rfl | (simp; done) | (simp only [← hji11] <;> (first | rfl | simp)) | (simp [*]; done)), H', ⟨by have := HK1.out; first | omega | exact Nat.le_refl _⟩, by repeat (first | exact Drawn0.refl _ | apply Drawn0.step)⟩
                    · rw [if_neg c13] at H
                      exact absurd H (by simp)
                  · rw [if_neg c12] at H
                    exact absurd H (by simp)
                · rw [if_neg c10] at H
                  have c10b0 : decide (0 < x3_1) = false := decide_eq_false c10
                  clear c10
                  have H' := Aside0.mk H
                  clear H
                  have p136 : 0 ≤ (x3_1 : Int) := of_decide_eq_true (by first | (with_reducible assumption) | assumption)
                  have q136 : x3_1 < (l0.length : Int) := of_decide_eq_true (by first | (with_reducible assumption) | assumption)
                  obtain ⟨ad136, e136, hx136_0, hx136_1⟩ := at_T51 HR0.out x3_1 p136 q136
                  (try rw [← Nbq4.out] at hx136_0)
                  obtain rfl : ad133 = ad136 := (by injection e136)
                  replace p136 := eq_true p136
                  replace q136 := eq_true q136
                  go_wp2
                  go_meet
                  case rel => exact ⟨_, (false), (by first | rfl | (simp; done) | (simp [*]; done)), H', ⟨by have := HK1.out; first | omega | exact Nat.le_refl _⟩, by repeat (first | exact Drawn0.refl _ | apply Drawn0.step)⟩
            case rest =>
              clear HC8
              try clear c1
              try clear p1
              try clear q1
              try clear hx1
              try clear c2
              try clear c2b0
              try clear p2
              try clear c3
              try clear c3b0
              try clear c4
              try clear q4
              try clear c5
              try clear p6
              try clear c7
              try clear c9
              try clear c9b0
              try clear c9b1
              try clear c10
              try clear c10b0
              try clear c12
              try clear c12b0
              try clear c13
              try clear c13b0
              try clear p13
              try clear q13
              try clear hx13
              try clear hx133_0
              try clear hx133_1
              try clear hx134_0
              try clear hx134_1
              try clear hx136_0
              try clear hx136_1
              try clear hx137_0
              try clear hx137_1
              try clear p133
              try clear p134
              try clear p136
              try clear p137
              try clear q133
              try clear q134
              try clear q136
              try clear q137
              obtain ⟨kq, x41_7, rfl, HA, HJ7, ⟨mc7, rfl⟩⟩ := hcut
              cases kq with
              | zero => exact absurd HA.out (by simp [doorkeeperref1_mayParts.j1])
              | succ kj7 =>
                have H := HA.out
                clear HA
                simp only [doorkeeperref1_mayParts.j1] at H
                by_cases c14 : x41_7 = true
                · subst c14
                  have H1 : (some false) = some r := by rw [if_pos rfl] at H; exact H
                  clear H
                  have H := H1
                  clear H1
                  obtain rfl := Option.some.inj H
                  go_wp2
                  go_ret
                  exact ⟨by first | rfl | (simp; done) | (simp [*]; done), by repeat (first | exact Drawn0.refl _ | apply Drawn0.step)⟩
                · replace c14 := Bool.eq_false_iff.mpr c14
                  subst c14
                  have H1 : (doorkeeperref1_mayParts.l1 kj7 l0 x3_1 0) = some r := by rw [if_neg (show ¬ (false = true) by decide)] at H; exact H
                  clear H
                  have H := H1
                  clear H1
                  have H' := Aside0.mk H
                  clear H
                  go_wp2
                  go_loopg [4] kj7 (fun kq v4 w' => ∃ (x4_3 : Int), v4 = .int .i64 x4_3 ∧ Aside0 (doorkeeperref1_mayParts.l1 kq l0 x3_1 x4_3 = some r) ∧ Aside0 (kq ≤ kj7) ∧ Drawn0 w w')
                  case atStart => exact ⟨(0), (by first | rfl | (simp; done) | (simp [*]; done)), H', ⟨Nat.le_refl _⟩, by repeat (first | exact Drawn0.refl _ | apply Drawn0.step)⟩
                  case round =>
                    clear H'
                    try clear c1
                    try clear p1
                    try clear q1
                    try clear hx1
                    try clear c2
                    try clear c2b0
                    try clear p2
                    try clear c3
                    try clear c3b0
                    try clear c4
                    try clear q4
                    try clear c5
                    try clear p6
                    try clear c7
                    try clear c9
                    try clear c9b0
                    try clear c9b1
                    try clear c10
                    try clear c10b0
                    try clear c12
                    try clear c12b0
                    try clear c13
                    try clear c13b0
                    try clear p13
                    try clear q13
                    try clear hx13
                    try clear c14
                    try clear hx133_0
                    try clear hx133_1
                    try clear hx134_0
                    try clear hx134_1
                    try clear hx136_0
                    try clear hx136_1
                    try clear hx137_0
                    try clear hx137_1
                    try clear p1
                    try clear p13
                    try clear p133
                    try clear p134
                    try clear p136
                    try clear p137
                    try clear p2
                    try clear p6
                    try clear q1
                    try clear q13
                    try clear q133
                    try clear q134
                    try clear q136
                    try clear q137
                    try clear q4
                    obtain ⟨x4_3, rfl, HA, HK3, ⟨m3, rfl⟩⟩ := hrel
                    cases gk with
                    | zero => exact absurd HA.out (by simp [doorkeeperref1_mayParts.l1])
                    | succ k3 =>
                      have H := HA.out
                      clear HA
                      simp only [doorkeeperref1_mayParts.l1] at H
                      by_cases c15 : 0 ≤ x3_1
                      · rw [if_pos c15] at H
                        have c15b0 : decide (0 ≤ x3_1) = true := decide_eq_true c15
                        clear c15
                        by_cases c16 : x3_1 < (l0.length : Int)
                        · rw [if_pos c16] at H
                          have c16b0 : decide (x3_1 < (l0.length : Int)) = true := decide_eq_true c16
                          clear c16
                          by_cases c17 : x4_3 < (((rd_T51 l0 x3_1).f1).size : Int)
                          · rw [if_pos c17] at H
                            have c17b0 : decide (x4_3 < (((rd_T51 l0 x3_1).f1).size : Int)) = true := decide_eq_true c17
                            clear c17
                            by_cases c18 : 0 ≤ x4_3
                            · rw [if_pos c18] at H
                              have c18b0 : decide (0 ≤ x4_3) = true := decide_eq_true c18
                              clear c18
                              by_cases c20 : (bt ((rd_T51 l0 x3_1).f1) x4_3) < 32
                              · rw [if_pos c20] at H
                                have c20b0 : decide ((bt ((rd_T51 l0 x3_1).f1) x4_3) < 32) = true := decide_eq_true c20
                                clear c20
                                by_cases c22 : (bt ((rd_T51 l0 x3_1).f1) x4_3) = 10
                                · rw [if_pos c22] at H
                                  have c22b0 : ((bt ((rd_T51 l0 x3_1).f1) x4_3) == 10) = true := beq_iff_eq.mpr c22
                                  have c22b1 : ((bt ((rd_T51 l0 x3_1).f1) x4_3) != 10) = false := bne_eq_false_iff_eq.mpr c22
                                  clear c22
                                  have H' := Aside0.mk H
                                  clear H
                                  have p138 : 0 ≤ (x3_1 : Int) := of_decide_eq_true (by first | (with_reducible assumption) | assumption)
                                  have q138 : x3_1 < (l0.length : Int) := of_decide_eq_true (by first | (with_reducible assumption) | assumption)
                                  obtain ⟨ad138, e138, hx138_0, hx138_1⟩ := at_T51 HR0.out x3_1 p138 q138
                                  (try rw [← Nbq4.out] at hx138_0)
                                  obtain rfl : ad133 = ad138 := (by injection e138)
                                  replace p138 := eq_true p138
                                  replace q138 := eq_true q138
                                  have p139 : 0 ≤ (x3_1 : Int) := of_decide_eq_true (by first | (with_reducible assumption) | assumption)
                                  have q139 : x3_1 < (l0.length : Int) := of_decide_eq_true (by first | (with_reducible assumption) | assumption)
                                  obtain ⟨ad139, e139, hx139_0, hx139_1⟩ := at_T51 HR0.out x3_1 p139 q139
                                  (try rw [← Nbq4.out] at hx139_0)
                                  obtain rfl : ad133 = ad139 := (by injection e139)
                                  replace p139 := eq_true p139
                                  replace q139 := eq_true q139
                                  have p19 : 0 ≤ (x4_3 : Int) := of_decide_eq_true (by first | (with_reducible assumption) | assumption)
                                  have q19 : x4_3 < (((rd_T51 l0 x3_1).f1).size : Int) := of_decide_eq_true (by first | (with_reducible assumption) | assumption)
                                  have hx19 := bt_at ((rd_T51 l0 x3_1).f1) x4_3
                                  replace p19 := eq_true p19
                                  replace q19 := eq_true q19
                                  have p140 : 0 ≤ (x3_1 : Int) := of_decide_eq_true (by first | (with_reducible assumption) | assumption)
                                  have q140 : x3_1 < (l0.length : Int) := of_decide_eq_true (by first | (with_reducible assumption) | assumption)
                                  obtain ⟨ad140, e140, hx140_0, hx140_1⟩ := at_T51 HR0.out x3_1 p140 q140
                                  (try rw [← Nbq4.out] at hx140_0)
                                  obtain rfl : ad133 = ad140 := (by injection e140)
                                  replace p140 := eq_true p140
                                  replace q140 := eq_true q140
                                  have p21 : 0 ≤ (x4_3 : Int) := of_decide_eq_true (by first | (with_reducible assumption) | assumption)
                                  have q21 : x4_3 < (((rd_T51 l0 x3_1).f1).size : Int) := of_decide_eq_true (by first | (with_reducible assumption) | assumption)
                                  have hx21 := bt_at ((rd_T51 l0 x3_1).f1) x4_3
                                  replace p21 := eq_true p21
                                  replace q21 := eq_true q21
                                  go_wp2
                                  go_roundg k3
                                  case measure => have := HK1.out; have := HJ7.out; have := HK3.out; omega
                                  case rel => exact ⟨(wrap64 (x4_3 + 1)), (by first | rfl | (simp; done) | (simp [*]; done)), H', ⟨by have := HK1.out; have := HJ7.out; have := HK3.out; omega⟩, by repeat (first | exact Drawn0.refl _ | apply Drawn0.step)⟩
                                · rw [if_neg c22] at H
                                  have c22b0 : ((bt ((rd_T51 l0 x3_1).f1) x4_3) == 10) = false := beq_eq_false_iff_ne.mpr c22
                                  have c22b1 : ((bt ((rd_T51 l0 x3_1).f1) x4_3) != 10) = true := bne_iff_ne.mpr c22
                                  obtain rfl := Option.some.inj H
                                  have p138 : 0 ≤ (x3_1 : Int) := of_decide_eq_true (by first | (with_reducible assumption) | assumption)
                                  have q138 : x3_1 < (l0.length : Int) := of_decide_eq_true (by first | (with_reducible assumption) | assumption)
                                  obtain ⟨ad138, e138, hx138_0, hx138_1⟩ := at_T51 HR0.out x3_1 p138 q138
                                  (try rw [← Nbq4.out] at hx138_0)
                                  obtain rfl : ad133 = ad138 := (by injection e138)
                                  replace p138 := eq_true p138
                                  replace q138 := eq_true q138
                                  have p139 : 0 ≤ (x3_1 : Int) := of_decide_eq_true (by first | (with_reducible assumption) | assumption)
                                  have q139 : x3_1 < (l0.length : Int) := of_decide_eq_true (by first | (with_reducible assumption) | assumption)
                                  obtain ⟨ad139, e139, hx139_0, hx139_1⟩ := at_T51 HR0.out x3_1 p139 q139
                                  (try rw [← Nbq4.out] at hx139_0)
                                  obtain rfl : ad133 = ad139 := (by injection e139)
                                  replace p139 := eq_true p139
                                  replace q139 := eq_true q139
                                  have p19 : 0 ≤ (x4_3 : Int) := of_decide_eq_true (by first | (with_reducible assumption) | assumption)
                                  have q19 : x4_3 < (((rd_T51 l0 x3_1).f1).size : Int) := of_decide_eq_true (by first | (with_reducible assumption) | assumption)
                                  have hx19 := bt_at ((rd_T51 l0 x3_1).f1) x4_3
                                  replace p19 := eq_true p19
                                  replace q19 := eq_true q19
                                  have p140 : 0 ≤ (x3_1 : Int) := of_decide_eq_true (by first | (with_reducible assumption) | assumption)
                                  have q140 : x3_1 < (l0.length : Int) := of_decide_eq_true (by first | (with_reducible assumption) | assumption)
                                  obtain ⟨ad140, e140, hx140_0, hx140_1⟩ := at_T51 HR0.out x3_1 p140 q140
                                  (try rw [← Nbq4.out] at hx140_0)
                                  obtain rfl : ad133 = ad140 := (by injection e140)
                                  replace p140 := eq_true p140
                                  replace q140 := eq_true q140
                                  have p21 : 0 ≤ (x4_3 : Int) := of_decide_eq_true (by first | (with_reducible assumption) | assumption)
                                  have q21 : x4_3 < (((rd_T51 l0 x3_1).f1).size : Int) := of_decide_eq_true (by first | (with_reducible assumption) | assumption)
                                  have hx21 := bt_at ((rd_T51 l0 x3_1).f1) x4_3
                                  replace p21 := eq_true p21
                                  replace q21 := eq_true q21
                                  go_wp2
                                  go_ret
                                  exact ⟨by first | rfl | (simp; done) | (simp [*]; done), by repeat (first | exact Drawn0.refl _ | apply Drawn0.step)⟩
                              · rw [if_neg c20] at H
                                have c20b0 : decide ((bt ((rd_T51 l0 x3_1).f1) x4_3) < 32) = false := decide_eq_false c20
                                clear c20
                                have H' := Aside0.mk H
                                clear H
                                have p138 : 0 ≤ (x3_1 : Int) := of_decide_eq_true (by first | (with_reducible assumption) | assumption)
                                have q138 : x3_1 < (l0.length : Int) := of_decide_eq_true (by first | (with_reducible assumption) | assumption)
                                obtain ⟨ad138, e138, hx138_0, hx138_1⟩ := at_T51 HR0.out x3_1 p138 q138
                                (try rw [← Nbq4.out] at hx138_0)
                                obtain rfl : ad133 = ad138 := (by injection e138)
                                replace p138 := eq_true p138
                                replace q138 := eq_true q138
                                have p139 : 0 ≤ (x3_1 : Int) := of_decide_eq_true (by first | (with_reducible assumption) | assumption)
                                have q139 : x3_1 < (l0.length : Int) := of_decide_eq_true (by first | (with_reducible assumption) | assumption)
                                obtain ⟨ad139, e139, hx139_0, hx139_1⟩ := at_T51 HR0.out x3_1 p139 q139
                                (try rw [← Nbq4.out] at hx139_0)
                                obtain rfl : ad133 = ad139 := (by injection e139)
                                replace p139 := eq_true p139
                                replace q139 := eq_true q139
                                have p19 : 0 ≤ (x4_3 : Int) := of_decide_eq_true (by first | (with_reducible assumption) | assumption)
                                have q19 : x4_3 < (((rd_T51 l0 x3_1).f1).size : Int) := of_decide_eq_true (by first | (with_reducible assumption) | assumption)
                                have hx19 := bt_at ((rd_T51 l0 x3_1).f1) x4_3
                                replace p19 := eq_true p19
                                replace q19 := eq_true q19
                                go_wp2
                                go_roundg k3
                                case measure => have := HK1.out; have := HJ7.out; have := HK3.out; omega
                                case rel => exact ⟨(wrap64 (x4_3 + 1)), (by first | rfl | (simp; done) | (simp [*]; done)), H', ⟨by have := HK1.out; have := HJ7.out; have := HK3.out; omega⟩, by repeat (first | exact Drawn0.refl _ | apply Drawn0.step)⟩
                            · rw [if_neg c18] at H
                              exact absurd H (by simp)
                          · rw [if_neg c17] at H
                            have c17b0 : decide (x4_3 < (((rd_T51 l0 x3_1).f1).size : Int)) = false := decide_eq_false c17
                            clear c17
                            have H' := Aside0.mk H
                            clear H
                            have p138 : 0 ≤ (x3_1 : Int) := of_decide_eq_true (by first | (with_reducible assumption) | assumption)
                            have q138 : x3_1 < (l0.length : Int) := of_decide_eq_true (by first | (with_reducible assumption) | assumption)
                            obtain ⟨ad138, e138, hx138_0, hx138_1⟩ := at_T51 HR0.out x3_1 p138 q138
                            (try rw [← Nbq4.out] at hx138_0)
                            obtain rfl : ad133 = ad138 := (by injection e138)
                            replace p138 := eq_true p138
                            replace q138 := eq_true q138
                            go_wp2
                            go_roundg k3
                            case measure => have := HK1.out; have := HJ7.out; have := HK3.out; omega
                            case rel => exact ⟨(wrap64 (x3_1 + 1)), (by first | rfl | (simp; done) | (simp [*]; done)), H', ⟨by have := HK1.out; have := HJ7.out; have := HK3.out; omega⟩, by repeat (first | exact Drawn0.refl _ | apply Drawn0.step)⟩
                        · rw [if_neg c16] at H
                          exact absurd H (by simp)
                      · rw [if_neg c15] at H
                        exact absurd H (by simp)
        · rw [if_neg c3] at H
          exact absurd H (by simp)
      · rw [if_neg c2] at H
        have c2b0 : decide (x3_1 < (l0.length : Int)) = false := decide_eq_false c2
        clear c2
        obtain rfl := Option.some.inj H
        go_wp2
        go_ret
        exact ⟨by first | rfl | (simp; done) | (simp [*]; done), by repeat (first | exact Drawn0.refl _ | apply Drawn0.step)⟩

end Go.Proofs.Ytbmjdkbakeckoaa.PRefsAll
