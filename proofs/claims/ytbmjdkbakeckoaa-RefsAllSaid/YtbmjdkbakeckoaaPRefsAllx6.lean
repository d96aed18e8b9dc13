-- PRINTED BY print.sh 35421559b90ae4d0a3588c463048766b98c2df88dd9212a6774a882060cdf62d: not written by this session
import Derived.Test.YtbmjdkbakeckoaaPRefsAllx0
import Derived.Test.YtbmjdkbakeckoaaPRefsAllx4
import Derived.Test.YtbmjdkbakeckoaaPRefsAllx5
namespace Go.Proofs.Ytbmjdkbakeckoaa.PRefsAll
open Go.RowKit Go.Proofs.YtbmjdkbakeckoaaW.PrintWords Go.Proofs.YtbmjdkbakeckoaaW.PrintLast Go.Proofs.YtbmjdkbakeckoaaW.PrintMore
attribute [local go_sem] max2_int min2_int max_two min_two max_three min_three max_four min_four   -- for this text's walks alone
set_option linter.unusedVariables false
set_option linter.unusedSimpArgs false

/-! ### doorkeeperref1_leaf: function 39 -/
def doorkeeperref1_leaf.j0 : Nat → Bool → Int → Int → ByteArray → List (S51) → List Int → Option (Bool)
  | 0, _, _, _, _, _, _ => none
  | k + 1, x42, x142000, x142001, x142002, x142003, x142004 => if x42 = true then (some false) else (if x142000 = 1 then (some (decide (x142001 ≥ 0))) else (if x142000 = 3 then (if x142001 = 0 then (some true) else (some (x142001 == 1))) else (if x142000 = 2 then ((doorkeeperref1_mayParts.f k x142003).bind fun t142 => (some t142)) else (if x142000 = 4 then ((doorkeeperref1_nameEnd.f k x142002 0).bind fun t143 => (if 0 ≤ t143 then (if t143 ≤ (x142002.size : Int) then ((doorkeeperref1_Dotted.f k x142002).bind fun t144 => (if t144 = true then (if (x142002.extract 0 (t143 : Int).toNat).toList = ([116, 114, 117, 101] : List UInt8) then (some false) else (some ((x142002.extract 0 (t143 : Int).toNat).toList != ([102, 97, 108, 115, 101] : List UInt8)))) else (some false))) else (none)) else (none))) else (if x142000 = 5 then ((doorkeeperref1_Name.f k x142002).bind fun t145 => (if t145 = true then (if x142002.toList = ([116, 114, 117, 101] : List UInt8) then (some false) else (some (x142002.toList != ([102, 97, 108, 115, 101] : List UInt8)))) else (some false))) else (some true))))))
def doorkeeperref1_leaf.f (k : Nat) (a0_0 : Int) (a0_1 : Int) (a0_2 : ByteArray) (l0_3 : List (S51)) (l0_4 : List Int) : Option (Bool) := if a0_0 = 1 then (if a0_0 = 4 then (if a0_0 = 2 then (doorkeeperref1_leaf.j0 k false a0_0 a0_1 a0_2 l0_3 l0_4) else (doorkeeperref1_leaf.j0 k (decide ((l0_3.length : Int) > 0)) a0_0 a0_1 a0_2 l0_3 l0_4)) else (if a0_0 = 5 then (if a0_0 = 2 then (doorkeeperref1_leaf.j0 k false a0_0 a0_1 a0_2 l0_3 l0_4) else (doorkeeperref1_leaf.j0 k (decide ((l0_3.length : Int) > 0)) a0_0 a0_1 a0_2 l0_3 l0_4)) else (if a0_2.toList = ([] : List UInt8) then (if a0_0 = 2 then (doorkeeperref1_leaf.j0 k false a0_0 a0_1 a0_2 l0_3 l0_4) else (doorkeeperref1_leaf.j0 k (decide ((l0_3.length : Int) > 0)) a0_0 a0_1 a0_2 l0_3 l0_4)) else (doorkeeperref1_leaf.j0 k true a0_0 a0_1 a0_2 l0_3 l0_4)))) else (if a0_0 = 3 then (if a0_0 = 4 then (if a0_0 = 2 then (doorkeeperref1_leaf.j0 k false a0_0 a0_1 a0_2 l0_3 l0_4) else (doorkeeperref1_leaf.j0 k (decide ((l0_3.length : Int) > 0)) a0_0 a0_1 a0_2 l0_3 l0_4)) else (if a0_0 = 5 then (if a0_0 = 2 then (doorkeeperref1_leaf.j0 k false a0_0 a0_1 a0_2 l0_3 l0_4) else (doorkeeperref1_leaf.j0 k (decide ((l0_3.length : Int) > 0)) a0_0 a0_1 a0_2 l0_3 l0_4)) else (if a0_2.toList = ([] : List UInt8) then (if a0_0 = 2 then (doorkeeperref1_leaf.j0 k false a0_0 a0_1 a0_2 l0_3 l0_4) else (doorkeeperref1_leaf.j0 k (decide ((l0_3.length : Int) > 0)) a0_0 a0_1 a0_2 l0_3 l0_4)) else (doorkeeperref1_leaf.j0 k true a0_0 a0_1 a0_2 l0_3 l0_4)))) else (if a0_1 = 0 then (if a0_0 = 4 then (if a0_0 = 2 then (doorkeeperref1_leaf.j0 k false a0_0 a0_1 a0_2 l0_3 l0_4) else (doorkeeperref1_leaf.j0 k (decide ((l0_3.length : Int) > 0)) a0_0 a0_1 a0_2 l0_3 l0_4)) else (if a0_0 = 5 then (if a0_0 = 2 then (doorkeeperref1_leaf.j0 k false a0_0 a0_1 a0_2 l0_3 l0_4) else (doorkeeperref1_leaf.j0 k (decide ((l0_3.length : Int) > 0)) a0_0 a0_1 a0_2 l0_3 l0_4)) else (if a0_2.toList = ([] : List UInt8) then (if a0_0 = 2 then (doorkeeperref1_leaf.j0 k false a0_0 a0_1 a0_2 l0_3 l0_4) else (doorkeeperref1_leaf.j0 k (decide ((l0_3.length : Int) > 0)) a0_0 a0_1 a0_2 l0_3 l0_4)) else (doorkeeperref1_leaf.j0 k true a0_0 a0_1 a0_2 l0_3 l0_4)))) else (doorkeeperref1_leaf.j0 k true a0_0 a0_1 a0_2 l0_3 l0_4)))
theorem doorkeeperref1_leaf.mono_l : ∀ k, (∀ y0 y1 y2 y3 y4 y5, LeO (doorkeeperref1_leaf.j0 k y0 y1 y2 y3 y4 y5) (doorkeeperref1_leaf.j0 (k + 1) y0 y1 y2 y3 y4 y5))
  | 0 => fun _ _ _ _ _ _ r h => by simp [doorkeeperref1_leaf.j0] at h
  | k + 1 => by
    have ih0 := doorkeeperref1_leaf.mono_l k
    · intro y0 y1 y2 y3 y4 y5
      unfold doorkeeperref1_leaf.j0
      repeat' first
      | (with_reducible exact ih0 _ _ _ _ _ _)
      | (with_reducible exact doorkeeperref1_Dotted.mono _ _)
      | (with_reducible exact doorkeeperref1_Name.mono _ _)
      | (with_reducible exact doorkeeperref1_mayParts.mono _ _)
      | (with_reducible exact doorkeeperref1_nameEnd.mono _ _ _)
      | (with_reducible exact LeO.refl _)
      | (with_reducible exact LeO.none _)
      | (with_reducible refine LeO.ite ?_ ?_)
      | (with_reducible refine LeO.bind ?_ (fun _ => ?_))
      | exact ih0 _ _ _ _ _ _
      | exact doorkeeperref1_Dotted.mono _ _
      | exact doorkeeperref1_Name.mono _ _
      | exact doorkeeperref1_mayParts.mono _ _
      | exact doorkeeperref1_nameEnd.mono _ _ _
      | exact LeO.none _
      | refine LeO.ite ?_ ?_
      | refine LeO.bind ?_ (fun _ => ?_)
theorem doorkeeperref1_leaf.mono : ∀ a0 a1 a2 a3 a4 k, LeO (doorkeeperref1_leaf.f k a0 a1 a2 a3 a4) (doorkeeperref1_leaf.f (k + 1) a0 a1 a2 a3 a4) := by
  intro a0 a1 a2 a3 a4 k
  have ih0 := doorkeeperref1_leaf.mono_l k
  unfold doorkeeperref1_leaf.f
  repeat' first
      | (with_reducible exact ih0 _ _ _ _ _ _)
      | (with_reducible exact doorkeeperref1_Dotted.mono _ _)
      | (with_reducible exact doorkeeperref1_Name.mono _ _)
      | (with_reducible exact doorkeeperref1_mayParts.mono _ _)
      | (with_reducible exact doorkeeperref1_nameEnd.mono _ _ _)
      | (with_reducible exact LeO.refl _)
      | (with_reducible exact LeO.none _)
      | (with_reducible refine LeO.ite ?_ ?_)
      | (with_reducible refine LeO.bind ?_ (fun _ => ?_))
      | exact ih0 _ _ _ _ _ _
      | exact doorkeeperref1_Dotted.mono _ _
      | exact doorkeeperref1_Name.mono _ _
      | exact doorkeeperref1_mayParts.mono _ _
      | exact doorkeeperref1_nameEnd.mono _ _ _
      | exact LeO.none _
      | refine LeO.ite ?_ ?_
      | refine LeO.bind ?_ (fun _ => ?_)
set_option maxHeartbeats 8000000 in
set_option maxRecDepth 100000 in
theorem doorkeeperref1_leaf.calls (k : Nat) (a0_0 : Int) (a0_1 : Int) (a0_2 : ByteArray) (A0_3 : Option Addr) (c0_3 : Nat) (l0_3 : List (S51)) (A0_4 : Option Addr) (c0_4 : Nat) (l0_4 : List Int) (r : Bool) (w : World) (hr0_3 : Kd.C k51 w A0_3 l0_3.length l0_3) (hc0_3 : l0_3.length ≤ c0_3) (hr0_4 : Kd.C (Kd.int .i64) w A0_4 l0_4.length l0_4) (hc0_4 : l0_4.length ≤ c0_4) (h : doorkeeperref1_leaf.f k a0_0 a0_1 a0_2 l0_3 l0_4 = some r) :
    Calls Try.prog 39 #[.agg #[.int .i64 a0_0, .int .i64 a0_1, .string a0_2, .slice A0_3 l0_3.length c0_3, .slice A0_4 l0_4.length c0_4]] w fun e w' => e = .returned (.bool r) ∧ Below w.heap.size w w' := by
  have hu47 := Try.underlying47
  have HR0_3 := Aside0.mk hr0_3
  have HC0_3 := Aside0.mk hc0_3
  clear hr0_3 hc0_3
  have HR0_4 := Aside0.mk hr0_4
  have HC0_4 := Aside0.mk hc0_4
  clear hr0_4 hc0_4
  have HB := Aside0.mk (Below.refl w.heap.size w)
  have H : (if a0_0 = 1 then (if a0_0 = 4 then (if a0_0 = 2 then (doorkeeperref1_leaf.j0 k false a0_0 a0_1 a0_2 l0_3 l0_4) else (doorkeeperref1_leaf.j0 k (decide ((l0_3.length : Int) > 0)) a0_0 a0_1 a0_2 l0_3 l0_4)) else (if a0_0 = 5 then (if a0_0 = 2 then (doorkeeperref1_leaf.j0 k false a0_0 a0_1 a0_2 l0_3 l0_4) else (doorkeeperref1_leaf.j0 k (decide ((l0_3.length : Int) > 0)) a0_0 a0_1 a0_2 l0_3 l0_4)) else (if a0_2.toList = ([] : List UInt8) then (if a0_0 = 2 then (doorkeeperref1_leaf.j0 k false a0_0 a0_1 a0_2 l0_3 l0_4) else (doorkeeperref1_leaf.j0 k (decide ((l0_3.length : Int) > 0)) a0_0 a0_1 a0_2 l0_3 l0_4)) else (doorkeeperref1_leaf.j0 k true a0_0 a0_1 a0_2 l0_3 l0_4)))) else (if a0_0 = 3 then (if a0_0 = 4 then (if a0_0 = 2 then (doorkeeperref1_leaf.j0 k false a0_0 a0_1 a0_2 l0_3 l0_4) else (doorkeeperref1_leaf.j0 k (decide ((l0_3.length : Int) > 0)) a0_0 a0_1 a0_2 l0_3 l0_4)) else (if a0_0 = 5 then (if a0_0 = 2 then (doorkeeperref1_leaf.j0 k false a0_0 a0_1 a0_2 l0_3 l0_4) else (doorkeeperref1_leaf.j0 k (decide ((l0_3.length : Int) > 0)) a0_0 a0_1 a0_2 l0_3 l0_4)) else (if a0_2.toList = ([] : List UInt8) then (if a0_0 = 2 then (doorkeeperref1_leaf.j0 k false a0_0 a0_1 a0_2 l0_3 l0_4) else (doorkeeperref1_leaf.j0 k (decide ((l0_3.length : Int) > 0)) a0_0 a0_1 a0_2 l0_3 l0_4)) else (doorkeeperref1_leaf.j0 k true a0_0 a0_1 a0_2 l0_3 l0_4)))) else (if a0_1 = 0 then (if a0_0 = 4 then (if a0_0 = 2 then (doorkeeperref1_leaf.j0 k false a0_0 a0_1 a0_2 l0_3 l0_4) else (doorkeeperref1_leaf.j0 k (decide ((l0_3.length : Int) > 0)) a0_0 a0_1 a0_2 l0_3 l0_4)) else (if a0_0 = 5 then (if a0_0 = 2 then (doorkeeperref1_leaf.j0 k false a0_0 a0_1 a0_2 l0_3 l0_4) else (doorkeeperref1_leaf.j0 k (decide ((l0_3.length : Int) > 0)) a0_0 a0_1 a0_2 l0_3 l0_4)) else (if a0_2.toList = ([] : List UInt8) then (if a0_0 = 2 then (doorkeeperref1_leaf.j0 k false a0_0 a0_1 a0_2 l0_3 l0_4) else (doorkeeperref1_leaf.j0 k (decide ((l0_3.length : Int) > 0)) a0_0 a0_1 a0_2 l0_3 l0_4)) else (doorkeeperref1_leaf.j0 k true a0_0 a0_1 a0_2 l0_3 l0_4)))) else (doorkeeperref1_leaf.j0 k true a0_0 a0_1 a0_2 l0_3 l0_4)))) = some r := h
  clear h
  have HC2 := Aside0.mk H
  clear H
  go_enter Try.func39, Try.ntmps39
  go_upto_region 1 with (first | ((with_reducible refine gate_dst (N := 1) rfl ?_); (try (refine gate_guard (by rfl) ?_; dsimp only)); refine box_event ?hg (N := 1) ?hd (cs := #[.int .i64 a0_0, .int .i64 a0_1, .string a0_2, .slice A0_3 l0_3.length c0_3, .slice A0_4 l0_4.length c0_4]) (t := 47) ?hr ?_; (case hd => rfl); (case hg => rfl); (case hr => first | (go_simp; done) | (go_simp; rfl)); intro gb141 hg w3 hbox hb; have n0_ := Aside0.mk (below_step (by repeat (first | (with_reducible first | exact HB.out | apply below_alloc | apply pw_below_drewN | apply below_drew1) | exact HB.out)) hb); have n1_ := Aside0.mk (hbox); have n2_ := Aside0.mk ((by rw [hg]; exact (below_size (by repeat (first | (with_reducible first | exact HB.out | apply below_alloc | apply pw_below_drewN | apply below_drew1) | exact HB.out))) : w.heap.size ≤ gb141)); have n3_ := Aside0.mk ((by rw [hg]; exact (below_size (by repeat (first | (with_reducible first | exact HB.out | apply below_alloc | apply pw_below_drewN | apply below_drew1) | exact HB.out))) : w.heap.size ≤ gb141)); clear HB; have HB := n0_; have BK141 := n1_; have GW141 := n2_; have GE141 := n3_; clear n0_ n1_ n2_ n3_; clear hb hbox hg))
  repeat (go_quiet (first | ((with_reducible refine gate_dst (N := 1) rfl ?_); (try (refine gate_guard (by rfl) ?_; dsimp only)); refine box_event ?hg (N := 1) ?hd (cs := #[.int .i64 a0_0, .int .i64 a0_1, .string a0_2, .slice A0_3 l0_3.length c0_3, .slice A0_4 l0_4.length c0_4]) (t := 47) ?hr ?_; (case hd => rfl); (case hg => rfl); (case hr => first | (go_simp; done) | (go_simp; rfl)); intro gb141 hg w3 hbox hb; have n0_ := Aside0.mk (below_step (by repeat (first | (with_reducible first | exact HB.out | apply below_alloc | apply pw_below_drewN | apply below_drew1) | exact HB.out)) hb); have n1_ := Aside0.mk (hbox); have n2_ := Aside0.mk ((by rw [hg]; exact (below_size (by repeat (first | (with_reducible first | exact HB.out | apply below_alloc | apply pw_below_drewN | apply below_drew1) | exact HB.out))) : w.heap.size ≤ gb141)); have n3_ := Aside0.mk ((by rw [hg]; exact (below_size (by repeat (first | (with_reducible first | exact HB.out | apply below_alloc | apply pw_below_drewN | apply below_drew1) | exact HB.out))) : w.heap.size ≤ gb141)); clear HB; have HB := n0_; have BK141 := n1_; have GW141 := n2_; have GE141 := n3_; clear n0_ n1_ n2_ n3_; clear hb hbox hg)); go_upto_region 1 with (first | ((with_reducible refine gate_dst (N := 1) rfl ?_); (try (refine gate_guard (by rfl) ?_; dsimp only)); refine box_event ?hg (N := 1) ?hd (cs := #[.int .i64 a0_0, .int .i64 a0_1, .string a0_2, .slice A0_3 l0_3.length c0_3, .slice A0_4 l0_4.length c0_4]) (t := 47) ?hr ?_; (case hd => rfl); (case hg => rfl); (case hr => first | (go_simp; done) | (go_simp; rfl)); intro gb141 hg w3 hbox hb; have n0_ := Aside0.mk (below_step (by repeat (first | (with_reducible first | exact HB.out | apply below_alloc | apply pw_below_drewN | apply below_drew1) | exact HB.out)) hb); have n1_ := Aside0.mk (hbox); have n2_ := Aside0.mk ((by rw [hg]; exact (below_size (by repeat (first | (with_reducible first | exact HB.out | apply below_alloc | apply pw_below_drewN | apply below_drew1) | exact HB.out))) : w.heap.size ≤ gb141)); have n3_ := Aside0.mk ((by rw [hg]; exact (below_size (by repeat (first | (with_reducible first | exact HB.out | apply below_alloc | apply pw_below_drewN | apply below_drew1) | exact HB.out))) : w.heap.size ≤ gb141)); clear HB; have HB := n0_; have BK141 := n1_; have GW141 := n2_; have GE141 := n3_; clear n0_ n1_ n2_ n3_; clear hb hbox hg)))
  (try simp only [Act.put, List.setIfInBounds_toArray, List.set_cons_zero, List.set_cons_succ])
  go_cut [42] (fun v42 wc => ∃ (kq : Nat) (x42_1 : Bool), v42 = .bool x42_1 ∧ Aside0 (doorkeeperref1_leaf.j0 kq x42_1 a0_0 a0_1 a0_2 l0_3 l0_4 = some r) ∧ Aside0 (kq ≤ k) ∧ Aside0 (wc.heap[gb141]? = some (.cells #[.int .i64 a0_0, .int .i64 a0_1, .string a0_2, (.slice A0_3 l0_3.length c0_3), (.slice A0_4 l0_4.length c0_4)] 47 (0, 0))) ∧ Aside0 (Below w.heap.size w wc))
  case first =>
    have H := HC2.out
    clear HC2
    by_cases c4 : a0_0 = 1
    · rw [if_pos c4] at H
      have c4b0 : (a0_0 == 1) = true := beq_iff_eq.mpr c4
      have c4b1 : (a0_0 != 1) = false := bne_eq_false_iff_eq.mpr c4
      clear c4
      (first | rw [c4b0] | (simp only [i64_w, i32_w]; rw [c4b0]) | skip)
      by_cases c5 : a0_0 = 4
      · rw [if_pos c5] at H
        have c5b0 : (a0_0 == 4) = true := beq_iff_eq.mpr c5
        have c5b1 : (a0_0 != 4) = false := bne_eq_false_iff_eq.mpr c5
        clear c5
        by_cases c6 : a0_0 = 2
        · rw [if_pos c6] at H
          have c6b0 : (a0_0 == 2) = true := beq_iff_eq.mpr c6
          have c6b1 : (a0_0 != 2) = false := bne_eq_false_iff_eq.mpr c6
          clear c6
          have H' := Aside0.mk H
          clear H
          have hcz7_0 : w3.cell? ⟨gb141, 0, none⟩ = some (.int .i64 a0_0) := (blk_cell BK141.out 0).trans rfl
          have hcz7_1 : w3.cell? ⟨gb141, 1, none⟩ = some (.int .i64 a0_1) := (blk_cell BK141.out 1).trans rfl
          have hcz7_2 : w3.cell? ⟨gb141, 2, none⟩ = some (.string a0_2) := (blk_cell BK141.out 2).trans rfl
          have hcz7_3 : w3.cell? ⟨gb141, 3, none⟩ = some (.slice A0_3 l0_3.length c0_3) := (blk_cell BK141.out 3).trans rfl
          have hcz7_4 : w3.cell? ⟨gb141, 4, none⟩ = some (.slice A0_4 l0_4.length c0_4) := (blk_cell BK141.out 4).trans rfl
          have hfz7_0 := blk_frozen BK141.out 0
          have hfz7_1 := blk_frozen BK141.out 1
          have hfz7_2 := blk_frozen BK141.out 2
          have hfz7_3 := blk_frozen BK141.out 3
          have hfz7_4 := blk_frozen BK141.out 4
          go_wp2
          repeat (go_quiet (fail); try go_wp2)
          go_meet
          case rel => exact ⟨_, (false), (by first | rfl | (simp; done) | (simp [*]; done)), H', ⟨by first | omega | exact Nat.le_refl _⟩, ⟨by (with_reducible repeat (first | refine blk_drewN ?_ _ | refine blk_drew ?_ | refine blk_alloc ?_ _)); exact BK141.out⟩, ⟨by repeat (first | (with_reducible first | exact HB.out | apply below_alloc | apply pw_below_drewN | apply below_drew1 | refine below_set ?_ GE141.out) | exact HB.out)⟩⟩
        · rw [if_neg c6] at H
          have c6b0 : (a0_0 == 2) = false := beq_eq_false_iff_ne.mpr c6
          have c6b1 : (a0_0 != 2) = true := bne_iff_ne.mpr c6
          have H' := Aside0.mk H
          clear H
          have hcz8_0 : w3.cell? ⟨gb141, 0, none⟩ = some (.int .i64 a0_0) := (blk_cell BK141.out 0).trans rfl
          have hcz8_1 : w3.cell? ⟨gb141, 1, none⟩ = some (.int .i64 a0_1) := (blk_cell BK141.out 1).trans rfl
          have hcz8_2 : w3.cell? ⟨gb141, 2, none⟩ = some (.string a0_2) := (blk_cell BK141.out 2).trans rfl
          have hcz8_3 : w3.cell? ⟨gb141, 3, none⟩ = some (.slice A0_3 l0_3.length c0_3) := (blk_cell BK141.out 3).trans rfl
          have hcz8_4 : w3.cell? ⟨gb141, 4, none⟩ = some (.slice A0_4 l0_4.length c0_4) := (blk_cell BK141.out 4).trans rfl
          have hfz8_0 := blk_frozen BK141.out 0
          have hfz8_1 := blk_frozen BK141.out 1
          have hfz8_2 := blk_frozen BK141.out 2
          have hfz8_3 := blk_frozen BK141.out 3
          have hfz8_4 := blk_frozen BK141.out 4
          go_wp2
          repeat (go_quiet (fail); try go_wp2)
          go_meet
          case rel => exact ⟨_, (decide ((l0_3.length : Int) > 0)), (by first | rfl | (simp; done) | (simp [*]; done)), H', ⟨by first | omega | exact Nat.le_refl _⟩, ⟨by (with_reducible repeat (first | refine blk_drewN ?_ _ | refine blk_drew ?_ | refine blk_alloc ?_ _)); exact BK141.out⟩, ⟨by repeat (first | (with_reducible first | exact HB.out | apply below_alloc | apply pw_below_drewN | apply below_drew1 | refine below_set ?_ GE141.out) | exact HB.out)⟩⟩
      · rw [if_neg c5] at H
        have c5b0 : (a0_0 == 4) = false := beq_eq_false_iff_ne.mpr c5
        have c5b1 : (a0_0 != 4) = true := bne_iff_ne.mpr c5
        by_cases c9 : a0_0 = 5
        · rw [if_pos c9] at H
          have c9b0 : (a0_0 == 5) = true := beq_iff_eq.mpr c9
          have c9b1 : (a0_0 != 5) = false := bne_eq_false_iff_eq.mpr c9
          clear c9
          by_cases c10 : a0_0 = 2
          · rw [if_pos c10] at H
            have c10b0 : (a0_0 == 2) = true := beq_iff_eq.mpr c10
            have c10b1 : (a0_0 != 2) = false := bne_eq_false_iff_eq.mpr c10
            clear c10
            have H' := Aside0.mk H
            clear H
            have hcz11_0 : w3.cell? ⟨gb141, 0, none⟩ = some (.int .i64 a0_0) := (blk_cell BK141.out 0).trans rfl
            have hcz11_1 : w3.cell? ⟨gb141, 1, none⟩ = some (.int .i64 a0_1) := (blk_cell BK141.out 1).trans rfl
            have hcz11_2 : w3.cell? ⟨gb141, 2, none⟩ = some (.string a0_2) := (blk_cell BK141.out 2).trans rfl
            have hcz11_3 : w3.cell? ⟨gb141, 3, none⟩ = some (.slice A0_3 l0_3.length c0_3) := (blk_cell BK141.out 3).trans rfl
            have hcz11_4 : w3.cell? ⟨gb141, 4, none⟩ = some (.slice A0_4 l0_4.length c0_4) := (blk_cell BK141.out 4).trans rfl
            have hfz11_0 := blk_frozen BK141.out 0
            have hfz11_1 := blk_frozen BK141.out 1
            have hfz11_2 := blk_frozen BK141.out 2
            have hfz11_3 := blk_frozen BK141.out 3
            have hfz11_4 := blk_frozen BK141.out 4
            go_wp2
            repeat (go_quiet (fail); try go_wp2)
            go_meet
            case rel => exact ⟨_, (false), (by first | rfl | (simp; done) | (simp [*]; done)), H', ⟨by first | omega | exact Nat.le_refl _⟩, ⟨by (with_reducible repeat (first | refine blk_drewN ?_ _ | refine blk_drew ?_ | refine blk_alloc ?_ _)); exact BK141.out⟩, ⟨by repeat (first | (with_reducible first | exact HB.out | apply below_alloc | apply pw_below_drewN | apply below_drew1 | refine below_set ?_ GE141.out) | exact HB.out)⟩⟩
          · rw [if_neg c10] at H
            have c10b0 : (a0_0 == 2) = false := beq_eq_false_iff_ne.mpr c10
            have c10b1 : (a0_0 != 2) = true := bne_iff_ne.mpr c10
            have H' := Aside0.mk H
            clear H
            have hcz12_0 : w3.cell? ⟨gb141, 0, none⟩ = some (.int .i64 a0_0) := (blk_cell BK141.out 0).trans rfl
            have hcz12_1 : w3.cell? ⟨gb141, 1, none⟩ = some (.int .i64 a0_1) := (blk_cell BK141.out 1).trans rfl
            have hcz12_2 : w3.cell? ⟨gb141, 2, none⟩ = some (.string a0_2) := (blk_cell BK141.out 2).trans rfl
            have hcz12_3 : w3.cell? ⟨gb141, 3, none⟩ = some (.slice A0_3 l0_3.length c0_3) := (blk_cell BK141.out 3).trans rfl
            have hcz12_4 : w3.cell? ⟨gb141, 4, none⟩ = some (.slice A0_4 l0_4.length c0_4) := (blk_cell BK141.out 4).trans rfl
            have hfz12_0 := blk_frozen BK141.out 0
            have hfz12_1 := blk_frozen BK141.out 1
            have hfz12_2 := blk_frozen BK141.out 2
            have hfz12_3 := blk_frozen BK141.out 3
            have hfz12_4 := blk_frozen BK141.out 4
            go_wp2
            repeat (go_quiet (fail); try go_wp2)
            go_meet
            case rel => exact ⟨_, (decide ((l0_3.length : Int) > 0)), (by first | rfl | (simp; done) | (simp [*]; done)), H', ⟨by first | omega | exact Nat.le_refl _⟩, ⟨by (with_reducible repeat (first | refine blk_drewN ?_ _ | refine blk_drew ?_ | refine blk_alloc ?_ _)); exact BK141.out⟩, ⟨by repeat (first | (with_reducible first | exact HB.out | apply below_alloc | apply pw_below_drewN | apply below_drew1 | refine below_set ?_ GE141.out) | exact HB.out)⟩⟩
        · rw [if_neg c9] at H
          have c9b0 : (a0_0 == 5) = false := beq_eq_false_iff_ne.mpr c9
          have c9b1 : (a0_0 != 5) = true := bne_iff_ne.mpr c9
          by_cases c13 : a0_2.toList = ([] : List UInt8)
          · rw [if_pos c13] at H
            have c13b0 : (a0_2.toList == ([] : List UInt8)) = true := beq_iff_eq.mpr c13
            have c13b1 : (a0_2.toList != ([] : List UInt8)) = false := bne_eq_false_iff_eq.mpr c13
            clear c13
            by_cases c14 : a0_0 = 2
            · rw [if_pos c14] at H
              have c14b0 : (a0_0 == 2) = true := beq_iff_eq.mpr c14
              have c14b1 : (a0_0 != 2) = false := bne_eq_false_iff_eq.mpr c14
              clear c14
              have H' := Aside0.mk H
              clear H
              have hcz15_0 : w3.cell? ⟨gb141, 0, none⟩ = some (.int .i64 a0_0) := (blk_cell BK141.out 0).trans rfl
              have hcz15_1 : w3.cell? ⟨gb141, 1, none⟩ = some (.int .i64 a0_1) := (blk_cell BK141.out 1).trans rfl
              have hcz15_2 : w3.cell? ⟨gb141, 2, none⟩ = some (.string a0_2) := (blk_cell BK141.out 2).trans rfl
              have hcz15_3 : w3.cell? ⟨gb141, 3, none⟩ = some (.slice A0_3 l0_3.length c0_3) := (blk_cell BK141.out 3).trans rfl
              have hcz15_4 : w3.cell? ⟨gb141, 4, none⟩ = some (.slice A0_4 l0_4.length c0_4) := (blk_cell BK141.out 4).trans rfl
              have hfz15_0 := blk_frozen BK141.out 0
              have hfz15_1 := blk_frozen BK141.out 1
              have hfz15_2 := blk_frozen BK141.out 2
              have hfz15_3 := blk_frozen BK141.out 3
              have hfz15_4 := blk_frozen BK141.out 4
              go_wp2
              repeat (go_quiet (fail); try go_wp2)
              go_meet
              case rel => exact ⟨_, (false), (by first | rfl | (simp; done) | (simp [*]; done)), H', ⟨by first | omega | exact Nat.le_refl _⟩, ⟨by (with_reducible repeat (first | refine blk_drewN ?_ _ | refine blk_drew ?_ | refine blk_alloc ?_ _)); exact BK141.out⟩, ⟨by repeat (first | (with_reducible first | exact HB.out | apply below_alloc | apply pw_below_drewN | apply below_drew1 | refine below_set ?_ GE141.out) | exact HB.out)⟩⟩
            · rw [if_neg c14] at H
              have c14b0 : (a0_0 == 2) = false := beq_eq_false_iff_ne.mpr c14
              have c14b1 : (a0_0 != 2) = true := bne_iff_ne.mpr c14
              have H' := Aside0.mk H
              clear H
              have hcz16_0 : w3.cell? ⟨gb141, 0, none⟩ = some (.int .i64 a0_0) := (blk_cell BK141.out 0).trans rfl
              have hcz16_1 : w3.cell? ⟨gb141, 1, none⟩ = some (.int .i64 a0_1) := (blk_cell BK141.out 1).trans rfl
              have hcz16_2 : w3.cell? ⟨gb141, 2, none⟩ = some (.string a0_2) := (blk_cell BK141.out 2).trans rfl
              have hcz16_3 : w3.cell? ⟨gb141, 3, none⟩ = some (.slice A0_3 l0_3.length c0_3) := (blk_cell BK141.out 3).trans rfl
              have hcz16_4 : w3.cell? ⟨gb141, 4, none⟩ = some (.slice A0_4 l0_4.length c0_4) := (blk_cell BK141.out 4).trans rfl
              have hfz16_0 := blk_frozen BK141.out 0
              have hfz16_1 := blk_frozen BK141.out 1
              have hfz16_2 := blk_frozen BK141.out 2
              have hfz16_3 := blk_frozen BK141.out 3
              have hfz16_4 := blk_frozen BK141.out 4
              go_wp2
              repeat (go_quiet (fail); try go_wp2)
              go_meet
              case rel => exact ⟨_, (decide ((l0_3.length : Int) > 0)), (by first | rfl | (simp; done) | (simp [*]; done)), H', ⟨by first | omega | exact Nat.le_refl _⟩, ⟨by (with_reducible repeat (first | refine blk_drewN ?_ _ | refine blk_drew ?_ | refine blk_alloc ?_ _)); exact BK141.out⟩, ⟨by repeat (first | (with_reducible first | exact HB.out | apply below_alloc | apply pw_below_drewN | apply below_drew1 | refine below_set ?_ GE141.out) | exact HB.out)⟩⟩
          · rw [if_neg c13] at H
            have c13b0 : (a0_2.toList == ([] : List UInt8)) = false := beq_eq_false_iff_ne.mpr c13
            have c13b1 : (a0_2.toList != ([] : List UInt8)) = true := bne_iff_ne.mpr c13
            have H' := Aside0.mk H
            clear H
            have hcz17_0 : w3.cell? ⟨gb141, 0, none⟩ = some (.int .i64 a0_0) := (blk_cell BK141.out 0).trans rfl
            have hcz17_1 : w3.cell? ⟨gb141, 1, none⟩ = some (.int .i64 a0_1) := (blk_cell BK141.out 1).trans rfl
            have hcz17_2 : w3.cell? ⟨gb141, 2, none⟩ = some (.string a0_2) := (blk_cell BK141.out 2).trans rfl
            have hcz17_3 : w3.cell? ⟨gb141, 3, none⟩ = some (.slice A0_3 l0_3.length c0_3) := (blk_cell BK141.out 3).trans rfl
            have hcz17_4 : w3.cell? ⟨gb141, 4, none⟩ = some (.slice A0_4 l0_4.length c0_4) := (blk_cell BK141.out 4).trans rfl
            have hfz17_0 := blk_frozen BK141.out 0
            have hfz17_1 := blk_frozen BK141.out 1
            have hfz17_2 := blk_frozen BK141.out 2
            have hfz17_3 := blk_frozen BK141.out 3
            have hfz17_4 := blk_frozen BK141.out 4
            go_wp2
            repeat (go_quiet (fail); try go_wp2)
            go_meet
            case rel => exact ⟨_, (true), (by first | rfl | (simp; done) | (simp [*]; done)), H', ⟨by first | omega | exact Nat.le_refl _⟩, ⟨by (with_reducible repeat (first | refine blk_drewN ?_ _ | refine blk_drew ?_ | refine blk_alloc ?_ _)); exact BK141.out⟩, ⟨by repeat (first | (with_reducible first | exact HB.out | apply below_alloc | apply pw_below_drewN | apply below_drew1 | refine below_set ?_ GE141.out) | exact HB.out)⟩⟩
    · rw [if_neg c4] at H
      have c4b0 : (a0_0 == 1) = false := beq_eq_false_iff_ne.mpr c4
      have c4b1 : (a0_0 != 1) = true := bne_iff_ne.mpr c4
      (first | rw [c4b0] | (simp only [i64_w, i32_w]; rw [c4b0]) | skip)
      by_cases c18 : a0_0 = 3
      · rw [if_pos c18] at H
        have c18b0 : (a0_0 == 3) = true := beq_iff_eq.mpr c18
        have c18b1 : (a0_0 != 3) = false := bne_eq_false_iff_eq.mpr c18
        clear c18
        by_cases c19 : a0_0 = 4
        · rw [if_pos c19] at H
          have c19b0 : (a0_0 == 4) = true := beq_iff_eq.mpr c19
          have c19b1 : (a0_0 != 4) = false := bne_eq_false_iff_eq.mpr c19
          clear c19
          by_cases c20 : a0_0 = 2
          · rw [if_pos c20] at H
            have c20b0 : (a0_0 == 2) = true := beq_iff_eq.mpr c20
            have c20b1 : (a0_0 != 2) = false := bne_eq_false_iff_eq.mpr c20
            clear c20
            have H' := Aside0.mk H
            clear H
            have hcz21_0 : w3.cell? ⟨gb141, 0, none⟩ = some (.int .i64 a0_0) := (blk_cell BK141.out 0).trans rfl
            have hcz21_1 : w3.cell? ⟨gb141, 1, none⟩ = some (.int .i64 a0_1) := (blk_cell BK141.out 1).trans rfl
            have hcz21_2 : w3.cell? ⟨gb141, 2, none⟩ = some (.string a0_2) := (blk_cell BK141.out 2).trans rfl
            have hcz21_3 : w3.cell? ⟨gb141, 3, none⟩ = some (.slice A0_3 l0_3.length c0_3) := (blk_cell BK141.out 3).trans rfl
            have hcz21_4 : w3.cell? ⟨gb141, 4, none⟩ = some (.slice A0_4 l0_4.length c0_4) := (blk_cell BK141.out 4).trans rfl
            have hfz21_0 := blk_frozen BK141.out 0
            have hfz21_1 := blk_frozen BK141.out 1
            have hfz21_2 := blk_frozen BK141.out 2
            have hfz21_3 := blk_frozen BK141.out 3
            have hfz21_4 := blk_frozen BK141.out 4
            go_wp2
            repeat (go_quiet (fail); try go_wp2)
            go_meet
            case rel => exact ⟨_, (false), (by first | rfl | (simp; done) | (simp [*]; done)), H', ⟨by first | omega | exact Nat.le_refl _⟩, ⟨by (with_reducible repeat (first | refine blk_drewN ?_ _ | refine blk_drew ?_ | refine blk_alloc ?_ _)); exact BK141.out⟩, ⟨by repeat (first | (with_reducible first | exact HB.out | apply below_alloc | apply pw_below_drewN | apply below_drew1 | refine below_set ?_ GE141.out) | exact HB.out)⟩⟩
          · rw [if_neg c20] at H
            have c20b0 : (a0_0 == 2) = false := beq_eq_false_iff_ne.mpr c20
            have c20b1 : (a0_0 != 2) = true := bne_iff_ne.mpr c20
            have H' := Aside0.mk H
            clear H
            have hcz22_0 : w3.cell? ⟨gb141, 0, none⟩ = some (.int .i64 a0_0) := (blk_cell BK141.out 0).trans rfl
            have hcz22_1 : w3.cell? ⟨gb141, 1, none⟩ = some (.int .i64 a0_1) := (blk_cell BK141.out 1).trans rfl
            have hcz22_2 : w3.cell? ⟨gb141, 2, none⟩ = some (.string a0_2) := (blk_cell BK141.out 2).trans rfl
            have hcz22_3 : w3.cell? ⟨gb141, 3, none⟩ = some (.slice A0_3 l0_3.length c0_3) := (blk_cell BK141.out 3).trans rfl
            have hcz22_4 : w3.cell? ⟨gb141, 4, none⟩ = some (.slice A0_4 l0_4.length c0_4) := (blk_cell BK141.out 4).trans rfl
            have hfz22_0 := blk_frozen BK141.out 0
            have hfz22_1 := blk_frozen BK141.out 1
            have hfz22_2 := blk_frozen BK141.out 2
            have hfz22_3 := blk_frozen BK141.out 3
            have hfz22_4 := blk_frozen BK141.out 4
            go_wp2
            repeat (go_quiet (fail); try go_wp2)
            go_meet
            case rel => exact ⟨_, (decide ((l0_3.length : Int) > 0)), (by first | rfl | (simp; done) | (simp [*]; done)), H', ⟨by first | omega | exact Nat.le_refl _⟩, ⟨by (with_reducible repeat (first | refine blk_drewN ?_ _ | refine blk_drew ?_ | refine blk_alloc ?_ _)); exact BK141.out⟩, ⟨by repeat (first | (with_reducible first | exact HB.out | apply below_alloc | apply pw_below_drewN | apply below_drew1 | refine below_set ?_ GE141.out) | exact HB.out)⟩⟩
        · rw [if_neg c19] at H
          have c19b0 : (a0_0 == 4) = false := beq_eq_false_iff_ne.mpr c19
          have c19b1 : (a0_0 != 4) = true := bne_iff_ne.mpr c19
          by_cases c23 : a0_0 = 5
          · rw [if_pos c23] at H
            have c23b0 : (a0_0 == 5) = true := beq_iff_eq.mpr c23
            have c23b1 : (a0_0 != 5) = false := bne_eq_false_iff_eq.mpr c23
            clear c23
            by_cases c24 : a0_0 = 2
            · rw [if_pos c24] at H
              have c24b0 : (a0_0 == 2) = true := beq_iff_eq.mpr c24
              have c24b1 : (a0_0 != 2) = false := bne_eq_false_iff_eq.mpr c24
              clear c24
              have H' := Aside0.mk H
              clear H
              have hcz25_0 : w3.cell? ⟨gb141, 0, none⟩ = some (.int .i64 a0_0) := (blk_cell BK141.out 0).trans rfl
              have hcz25_1 : w3.cell? ⟨gb141, 1, none⟩ = some (.int .i64 a0_1) := (blk_cell BK141.out 1).trans rfl
              have hcz25_2 : w3.cell? ⟨gb141, 2, none⟩ = some (.string a0_2) := (blk_cell BK141.out 2).trans rfl
              have hcz25_3 : w3.cell? ⟨gb141, 3, none⟩ = some (.slice A0_3 l0_3.length c0_3) := (blk_cell BK141.out 3).trans rfl
              have hcz25_4 : w3.cell? ⟨gb141, 4, none⟩ = some (.slice A0_4 l0_4.length c0_4) := (blk_cell BK141.out 4).trans rfl
              have hfz25_0 := blk_frozen BK141.out 0
              have hfz25_1 := blk_frozen BK141.out 1
              have hfz25_2 := blk_frozen BK141.out 2
              have hfz25_3 := blk_frozen BK141.out 3
              have hfz25_4 := blk_frozen BK141.out 4
              go_wp2
              repeat (go_quiet (fail); try go_wp2)
              go_meet
              case rel => exact ⟨_, (false), (by first | rfl | (simp; done) | (simp [*]; done)), H', ⟨by first | omega | exact Nat.le_refl _⟩, ⟨by (with_reducible repeat (first | refine blk_drewN ?_ _ | refine blk_drew ?_ | refine blk_alloc ?_ _)); exact BK141.out⟩, ⟨by repeat (first | (with_reducible first | exact HB.out | apply below_alloc | apply pw_below_drewN | apply below_drew1 | refine below_set ?_ GE141.out) | exact HB.out)⟩⟩
            · rw [if_neg c24] at H
              have c24b0 : (a0_0 == 2) = false := beq_eq_false_iff_ne.mpr c24
              have c24b1 : (a0_0 != 2) = true := bne_iff_ne.mpr c24
              have H' := Aside0.mk H
              clear H
              have hcz26_0 : w3.cell? ⟨gb141, 0, none⟩ = some (.int .i64 a0_0) := (blk_cell BK141.out 0).trans rfl
              have hcz26_1 : w3.cell? ⟨gb141, 1, none⟩ = some (.int .i64 a0_1) := (blk_cell BK141.out 1).trans rfl
              have hcz26_2 : w3.cell? ⟨gb141, 2, none⟩ = some (.string a0_2) := (blk_cell BK141.out 2).trans rfl
              have hcz26_3 : w3.cell? ⟨gb141, 3, none⟩ = some (.slice A0_3 l0_3.length c0_3) := (blk_cell BK141.out 3).trans rfl
              have hcz26_4 : w3.cell? ⟨gb141, 4, none⟩ = some (.slice A0_4 l0_4.length c0_4) := (blk_cell BK141.out 4).trans rfl
              have hfz26_0 := blk_frozen BK141.out 0
              have hfz26_1 := blk_frozen BK141.out 1
              have hfz26_2 := blk_frozen BK141.out 2
              have hfz26_3 := blk_frozen BK141.out 3
              have hfz26_4 := blk_frozen BK141.out 4
              go_wp2
              repeat (go_quiet (fail); try go_wp2)
              go_meet
              case rel => exact ⟨_, (decide ((l0_3.length : Int) > 0)), (by first | rfl | (simp; done) | (simp [*]; done)), H', ⟨by first | omega | exact Nat.le_refl _⟩, ⟨by (with_reducible repeat (first | refine blk_drewN ?_ _ | refine blk_drew ?_ | refine blk_alloc ?_ _)); exact BK141.out⟩, ⟨by repeat (first | (with_reducible first | exact HB.out | apply below_alloc | apply pw_below_drewN | apply below_drew1 | refine below_set ?_ GE141.out) | exact HB.out)⟩⟩
          · rw [if_neg c23] at H
            have c23b0 : (a0_0 == 5) = false := beq_eq_false_iff_ne.mpr c23
            have c23b1 : (a0_0 != 5) = true := bne_iff_ne.mpr c23
            by_cases c27 : a0_2.toList = ([] : List UInt8)
            · rw [if_pos c27] at H
              have c27b0 : (a0_2.toList == ([] : List UInt8)) = true := beq_iff_eq.mpr c27
              have c27b1 : (a0_2.toList != ([] : List UInt8)) = false := bne_eq_false_iff_eq.mpr c27
              clear c27
              by_cases c28 : a0_0 = 2
              · rw [if_pos c28] at H
                have c28b0 : (a0_0 == 2) = true := beq_iff_eq.mpr c28
                have c28b1 : (a0_0 != 2) = false := bne_eq_false_iff_eq.mpr c28
                clear c28
                have H' := Aside0.mk H
                clear H
                have hcz29_0 : w3.cell? ⟨gb141, 0, none⟩ = some (.int .i64 a0_0) := (blk_cell BK141.out 0).trans rfl
                have hcz29_1 : w3.cell? ⟨gb141, 1, none⟩ = some (.int .i64 a0_1) := (blk_cell BK141.out 1).trans rfl
                have hcz29_2 : w3.cell? ⟨gb141, 2, none⟩ = some (.string a0_2) := (blk_cell BK141.out 2).trans rfl
                have hcz29_3 : w3.cell? ⟨gb141, 3, none⟩ = some (.slice A0_3 l0_3.length c0_3) := (blk_cell BK141.out 3).trans rfl
                have hcz29_4 : w3.cell? ⟨gb141, 4, none⟩ = some (.slice A0_4 l0_4.length c0_4) := (blk_cell BK141.out 4).trans rfl
                have hfz29_0 := blk_frozen BK141.out 0
                have hfz29_1 := blk_frozen BK141.out 1
                have hfz29_2 := blk_frozen BK141.out 2
                have hfz29_3 := blk_frozen BK141.out 3
                have hfz29_4 := blk_frozen BK141.out 4
                go_wp2
                repeat (go_quiet (fail); try go_wp2)
                go_meet
                case rel => exact ⟨_, (false), (by first | rfl | (simp; done) | (simp [*]; done)), H', ⟨by first | omega | exact Nat.le_refl _⟩, ⟨by (with_reducible repeat (first | refine blk_drewN ?_ _ | refine blk_drew ?_ | refine blk_alloc ?_ _)); exact BK141.out⟩, ⟨by repeat (first | (with_reducible first | exact HB.out | apply below_alloc | apply pw_below_drewN | apply below_drew1 | refine below_set ?_ GE141.out) | exact HB.out)⟩⟩
              · rw [if_neg c28] at H
                have c28b0 : (a0_0 == 2) = false := beq_eq_false_iff_ne.mpr c28
                have c28b1 : (a0_0 != 2) = true := bne_iff_ne.mpr c28
                have H' := Aside0.mk H
                clear H
                have hcz30_0 : w3.cell? ⟨gb141, 0, none⟩ = some (.int .i64 a0_0) := (blk_cell BK141.out 0).trans rfl
                have hcz30_1 : w3.cell? ⟨gb141, 1, none⟩ = some (.int .i64 a0_1) := (blk_cell BK141.out 1).trans rfl
                have hcz30_2 : w3.cell? ⟨gb141, 2, none⟩ = some (.string a0_2) := (blk_cell BK141.out 2).trans rfl
                have hcz30_3 : w3.cell? ⟨gb141, 3, none⟩ = some (.slice A0_3 l0_3.length c0_3) := (blk_cell BK141.out 3).trans rfl
                have hcz30_4 : w3.cell? ⟨gb141, 4, none⟩ = some (.slice A0_4 l0_4.length c0_4) := (blk_cell BK141.out 4).trans rfl
                have hfz30_0 := blk_frozen BK141.out 0
                have hfz30_1 := blk_frozen BK141.out 1
                have hfz30_2 := blk_frozen BK141.out 2
                have hfz30_3 := blk_frozen BK141.out 3
                have hfz30_4 := blk_frozen BK141.out 4
                go_wp2
                repeat (go_quiet (fail); try go_wp2)
                go_meet
                case rel => exact ⟨_, (decide ((l0_3.length : Int) > 0)), (by first | rfl | (simp; done) | (simp [*]; done)), H', ⟨by first | omega | exact Nat.le_refl _⟩, ⟨by (with_reducible repeat (first | refine blk_drewN ?_ _ | refine blk_drew ?_ | refine blk_alloc ?_ _)); exact BK141.out⟩, ⟨by repeat (first | (with_reducible first | exact HB.out | apply below_alloc | apply pw_below_drewN | apply below_drew1 | refine below_set ?_ GE141.out) | exact HB.out)⟩⟩
            · rw [if_neg c27] at H
              have c27b0 : (a0_2.toList == ([] : List UInt8)) = false := beq_eq_false_iff_ne.mpr c27
              have c27b1 : (a0_2.toList != ([] : List UInt8)) = true := bne_iff_ne.mpr c27
              have H' := Aside0.mk H
              clear H
              have hcz31_0 : w3.cell? ⟨gb141, 0, none⟩ = some (.int .i64 a0_0) := (blk_cell BK141.out 0).trans rfl
              have hcz31_1 : w3.cell? ⟨gb141, 1, none⟩ = some (.int .i64 a0_1) := (blk_cell BK141.out 1).trans rfl
              have hcz31_2 : w3.cell? ⟨gb141, 2, none⟩ = some (.string a0_2) := (blk_cell BK141.out 2).trans rfl
              have hcz31_3 : w3.cell? ⟨gb141, 3, none⟩ = some (.slice A0_3 l0_3.length c0_3) := (blk_cell BK141.out 3).trans rfl
              have hcz31_4 : w3.cell? ⟨gb141, 4, none⟩ = some (.slice A0_4 l0_4.length c0_4) := (blk_cell BK141.out 4).trans rfl
              have hfz31_0 := blk_frozen BK141.out 0
              have hfz31_1 := blk_frozen BK141.out 1
              have hfz31_2 := blk_frozen BK141.out 2
              have hfz31_3 := blk_frozen BK141.out 3
              have hfz31_4 := blk_frozen BK141.out 4
              go_wp2
              repeat (go_quiet (fail); try go_wp2)
              go_meet
              case rel => exact ⟨_, (true), (by first | rfl | (simp; done) | (simp [*]; done)), H', ⟨by first | omega | exact Nat.le_refl _⟩, ⟨by (with_reducible repeat (first | refine blk_drewN ?_ _ | refine blk_drew ?_ | refine blk_alloc ?_ _)); exact BK141.out⟩, ⟨by repeat (first | (with_reducible first | exact HB.out | apply below_alloc | apply pw_below_drewN | apply below_drew1 | refine below_set ?_ GE141.out) | exact HB.out)⟩⟩
      · rw [if_neg c18] at H
        have c18b0 : (a0_0 == 3) = false := beq_eq_false_iff_ne.mpr c18
        have c18b1 : (a0_0 != 3) = true := bne_iff_ne.mpr c18
        by_cases c32 : a0_1 = 0
        · rw [if_pos c32] at H
          have c32b0 : (a0_1 == 0) = true := beq_iff_eq.mpr c32
          have c32b1 : (a0_1 != 0) = false := bne_eq_false_iff_eq.mpr c32
          clear c32
          by_cases c33 : a0_0 = 4
          · rw [if_pos c33] at H
            have c33b0 : (a0_0 == 4) = true := beq_iff_eq.mpr c33
            have c33b1 : (a0_0 != 4) = false := bne_eq_false_iff_eq.mpr c33
            clear c33
            by_cases c34 : a0_0 = 2
            · rw [if_pos c34] at H
              have c34b0 : (a0_0 == 2) = true := beq_iff_eq.mpr c34
              have c34b1 : (a0_0 != 2) = false := bne_eq_false_iff_eq.mpr c34
              clear c34
              have H' := Aside0.mk H
              clear H
              have hcz35_0 : w3.cell? ⟨gb141, 0, none⟩ = some (.int .i64 a0_0) := (blk_cell BK141.out 0).trans rfl
              have hcz35_1 : w3.cell? ⟨gb141, 1, none⟩ = some (.int .i64 a0_1) := (blk_cell BK141.out 1).trans rfl
              have hcz35_2 : w3.cell? ⟨gb141, 2, none⟩ = some (.string a0_2) := (blk_cell BK141.out 2).trans rfl
              have hcz35_3 : w3.cell? ⟨gb141, 3, none⟩ = some (.slice A0_3 l0_3.length c0_3) := (blk_cell BK141.out 3).trans rfl
              have hcz35_4 : w3.cell? ⟨gb141, 4, none⟩ = some (.slice A0_4 l0_4.length c0_4) := (blk_cell BK141.out 4).trans rfl
              have hfz35_0 := blk_frozen BK141.out 0
              have hfz35_1 := blk_frozen BK141.out 1
              have hfz35_2 := blk_frozen BK141.out 2
              have hfz35_3 := blk_frozen BK141.out 3
              have hfz35_4 := blk_frozen BK141.out 4
              go_wp2
              repeat (go_quiet (fail); try go_wp2)
              go_meet
              case rel => exact ⟨_, (false), (by first | rfl | (simp; done) | (simp [*]; done)), H', ⟨by first | omega | exact Nat.le_refl _⟩, ⟨by (with_reducible repeat (first | refine blk_drewN ?_ _ | refine blk_drew ?_ | refine blk_alloc ?_ _)); exact BK141.out⟩, ⟨by repeat (first | (with_reducible first | exact HB.out | apply below_alloc | apply pw_below_drewN | apply below_drew1 | refine below_set ?_ GE141.out) | exact HB.out)⟩⟩
            · rw [if_neg c34] at H
              have c34b0 : (a0_0 == 2) = false := beq_eq_false_iff_ne.mpr c34
              have c34b1 : (a0_0 != 2) = true := bne_iff_ne.mpr c34
              have H' := Aside0.mk H
              clear H
              have hcz36_0 : w3.cell? ⟨gb141, 0, none⟩ = some (.int .i64 a0_0) := (blk_cell BK141.out 0).trans rfl
              have hcz36_1 : w3.cell? ⟨gb141, 1, none⟩ = some (.int .i64 a0_1) := (blk_cell BK141.out 1).trans rfl
              have hcz36_2 : w3.cell? ⟨gb141, 2, none⟩ = some (.string a0_2) := (blk_cell BK141.out 2).trans rfl
              have hcz36_3 : w3.cell? ⟨gb141, 3, none⟩ = some (.slice A0_3 l0_3.length c0_3) := (blk_cell BK141.out 3).trans rfl
              have hcz36_4 : w3.cell? ⟨gb141, 4, none⟩ = some (.slice A0_4 l0_4.length c0_4) := (blk_cell BK141.out 4).trans rfl
              have hfz36_0 := blk_frozen BK141.out 0
              have hfz36_1 := blk_frozen BK141.out 1
              have hfz36_2 := blk_frozen BK141.out 2
              have hfz36_3 := blk_frozen BK141.out 3
              have hfz36_4 := blk_frozen BK141.out 4
              go_wp2
              repeat (go_quiet (fail); try go_wp2)
              go_meet
              case rel => exact ⟨_, (decide ((l0_3.length : Int) > 0)), (by first | rfl | (simp; done) | (simp [*]; done)), H', ⟨by first | omega | exact Nat.le_refl _⟩, ⟨by (with_reducible repeat (first | refine blk_drewN ?_ _ | refine blk_drew ?_ | refine blk_alloc ?_ _)); exact BK141.out⟩, ⟨by repeat (first | (with_reducible first | exact HB.out | apply below_alloc | apply pw_below_drewN | apply below_drew1 | refine below_set ?_ GE141.out) | exact HB.out)⟩⟩
          · rw [if_neg c33] at H
            have c33b0 : (a0_0 == 4) = false := beq_eq_false_iff_ne.mpr c33
            have c33b1 : (a0_0 != 4) = true := bne_iff_ne.mpr c33
            by_cases c37 : a0_0 = 5
            · rw [if_pos c37] at H
              have c37b0 : (a0_0 == 5) = true := beq_iff_eq.mpr c37
              have c37b1 : (a0_0 != 5) = false := bne_eq_false_iff_eq.mpr c37
              clear c37
              by_cases c38 : a0_0 = 2
              · rw [if_pos c38] at H
                have c38b0 : (a0_0 == 2) = true := beq_iff_eq.mpr c38
                have c38b1 : (a0_0 != 2) = false := bne_eq_false_iff_eq.mpr c38
                clear c38
                have H' := Aside0.mk H
                clear H
                have hcz39_0 : w3.cell? ⟨gb141, 0, none⟩ = some (.int .i64 a0_0) := (blk_cell BK141.out 0).trans rfl
                have hcz39_1 : w3.cell? ⟨gb141, 1, none⟩ = some (.int .i64 a0_1) := (blk_cell BK141.out 1).trans rfl
                have hcz39_2 : w3.cell? ⟨gb141, 2, none⟩ = some (.string a0_2) := (blk_cell BK141.out 2).trans rfl
                have hcz39_3 : w3.cell? ⟨gb141, 3, none⟩ = some (.slice A0_3 l0_3.length c0_3) := (blk_cell BK141.out 3).trans rfl
                have hcz39_4 : w3.cell? ⟨gb141, 4, none⟩ = some (.slice A0_4 l0_4.length c0_4) := (blk_cell BK141.out 4).trans rfl
                have hfz39_0 := blk_frozen BK141.out 0
                have hfz39_1 := blk_frozen BK141.out 1
                have hfz39_2 := blk_frozen BK141.out 2
                have hfz39_3 := blk_frozen BK141.out 3
                have hfz39_4 := blk_frozen BK141.out 4
                go_wp2
                repeat (go_quiet (fail); try go_wp2)
                go_meet
                case rel => exact ⟨_, (false), (by first | rfl | (simp; done) | (simp [*]; done)), H', ⟨by first | omega | exact Nat.le_refl _⟩, ⟨by (with_reducible repeat (first | refine blk_drewN ?_ _ | refine blk_drew ?_ | refine blk_alloc ?_ _)); exact BK141.out⟩, ⟨by repeat (first | (with_reducible first | exact HB.out | apply below_alloc | apply pw_below_drewN | apply below_drew1 | refine below_set ?_ GE141.out) | exact HB.out)⟩⟩
              · rw [if_neg c38] at H
                have c38b0 : (a0_0 == 2) = false := beq_eq_false_iff_ne.mpr c38
                have c38b1 : (a0_0 != 2) = true := bne_iff_ne.mpr c38
                have H' := Aside0.mk H
                clear H
                have hcz40_0 : w3.cell? ⟨gb141, 0, none⟩ = some (.int .i64 a0_0) := (blk_cell BK141.out 0).trans rfl
                have hcz40_1 : w3.cell? ⟨gb141, 1, none⟩ = some (.int .i64 a0_1) := (blk_cell BK141.out 1).trans rfl
                have hcz40_2 : w3.cell? ⟨gb141, 2, none⟩ = some (.string a0_2) := (blk_cell BK141.out 2).trans rfl
                have hcz40_3 : w3.cell? ⟨gb141, 3, none⟩ = some (.slice A0_3 l0_3.length c0_3) := (blk_cell BK141.out 3).trans rfl
                have hcz40_4 : w3.cell? ⟨gb141, 4, none⟩ = some (.slice A0_4 l0_4.length c0_4) := (blk_cell BK141.out 4).trans rfl
                have hfz40_0 := blk_frozen BK141.out 0
                have hfz40_1 := blk_frozen BK141.out 1
                have hfz40_2 := blk_frozen BK141.out 2
                have hfz40_3 := blk_frozen BK141.out 3
                have hfz40_4 := blk_frozen BK141.out 4
                go_wp2
                repeat (go_quiet (fail); try go_wp2)
                go_meet
                case rel => exact ⟨_, (decide ((l0_3.length : Int) > 0)), (by first | rfl | (simp; done) | (simp [*]; done)), H', ⟨by first | omega | exact Nat.le_refl _⟩, ⟨by (with_reducible repeat (first | refine blk_drewN ?_ _ | refine blk_drew ?_ | refine blk_alloc ?_ _)); exact BK141.out⟩, ⟨by repeat (first | (with_reducible first | exact HB.out | apply below_alloc | apply pw_below_drewN | apply below_drew1 | refine below_set ?_ GE141.out) | exact HB.out)⟩⟩
            · rw [if_neg c37] at H
              have c37b0 : (a0_0 == 5) = false := beq_eq_false_iff_ne.mpr c37
              have c37b1 : (a0_0 != 5) = true := bne_iff_ne.mpr c37
              by_cases c41 : a0_2.toList = ([] : List UInt8)
              · rw [if_pos c41] at H
                have c41b0 : (a0_2.toList == ([] : List UInt8)) = true := beq_iff_eq.mpr c41
                have c41b1 : (a0_2.toList != ([] : List UInt8)) = false := bne_eq_false_iff_eq.mpr c41
                clear c41
                by_cases c42 : a0_0 = 2
                · rw [if_pos c42] at H
                  have c42b0 : (a0_0 == 2) = true := beq_iff_eq.mpr c42
                  have c42b1 : (a0_0 != 2) = false := bne_eq_false_iff_eq.mpr c42
                  clear c42
                  have H' := Aside0.mk H
                  clear H
                  have hcz43_0 : w3.cell? ⟨gb141, 0, none⟩ = some (.int .i64 a0_0) := (blk_cell BK141.out 0).trans rfl
                  have hcz43_1 : w3.cell? ⟨gb141, 1, none⟩ = some (.int .i64 a0_1) := (blk_cell BK141.out 1).trans rfl
                  have hcz43_2 : w3.cell? ⟨gb141, 2, none⟩ = some (.string a0_2) := (blk_cell BK141.out 2).trans rfl
                  have hcz43_3 : w3.cell? ⟨gb141, 3, none⟩ = some (.slice A0_3 l0_3.length c0_3) := (blk_cell BK141.out 3).trans rfl
                  have hcz43_4 : w3.cell? ⟨gb141, 4, none⟩ = some (.slice A0_4 l0_4.length c0_4) := (blk_cell BK141.out 4).trans rfl
                  have hfz43_0 := blk_frozen BK141.out 0
                  have hfz43_1 := blk_frozen BK141.out 1
                  have hfz43_2 := blk_frozen BK141.out 2
                  have hfz43_3 := blk_frozen BK141.out 3
                  have hfz43_4 := blk_frozen BK141.out 4
                  go_wp2
                  repeat (go_quiet (fail); try go_wp2)
                  go_meet
                  case rel => exact ⟨_, (false), (by first | rfl | (simp; done) | (simp [*]; done)), H', ⟨by first | omega | exact Nat.le_refl _⟩, ⟨by (with_reducible repeat (first | refine blk_drewN ?_ _ | refine blk_drew ?_ | refine blk_alloc ?_ _)); exact BK141.out⟩, ⟨by repeat (first | (with_reducible first | exact HB.out | apply below_alloc | apply pw_below_drewN | apply below_drew1 | refine below_set ?_ GE141.out) | exact HB.out)⟩⟩
                · rw [if_neg c42] at H
                  have c42b0 : (a0_0 == 2) = false := beq_eq_false_iff_ne.mpr c42
                  have c42b1 : (a0_0 != 2) = true := bne_iff_ne.mpr c42
                  have H' := Aside0.mk H
                  clear H
                  have hcz44_0 : w3.cell? ⟨gb141, 0, none⟩ = some (.int .i64 a0_0) := (blk_cell BK141.out 0).trans rfl
                  have hcz44_1 : w3.cell? ⟨gb141, 1, none⟩ = some (.int .i64 a0_1) := (blk_cell BK141.out 1).trans rfl
                  have hcz44_2 : w3.cell? ⟨gb141, 2, none⟩ = some (.string a0_2) := (blk_cell BK141.out 2).trans rfl
                  have hcz44_3 : w3.cell? ⟨gb141, 3, none⟩ = some (.slice A0_3 l0_3.length c0_3) := (blk_cell BK141.out 3).trans rfl
                  have hcz44_4 : w3.cell? ⟨gb141, 4, none⟩ = some (.slice A0_4 l0_4.length c0_4) := (blk_cell BK141.out 4).trans rfl
                  have hfz44_0 := blk_frozen BK141.out 0
                  have hfz44_1 := blk_frozen BK141.out 1
                  have hfz44_2 := blk_frozen BK141.out 2
                  have hfz44_3 := blk_frozen BK141.out 3
                  have hfz44_4 := blk_frozen BK141.out 4
                  go_wp2
                  repeat (go_quiet (fail); try go_wp2)
                  go_meet
                  case rel => exact ⟨_, (decide ((l0_3.length : Int) > 0)), (by first | rfl | (simp; done) | (simp [*]; done)), H', ⟨by first | omega | exact Nat.le_refl _⟩, ⟨by (with_reducible repeat (first | refine blk_drewN ?_ _ | refine blk_drew ?_ | refine blk_alloc ?_ _)); exact BK141.out⟩, ⟨by repeat (first | (with_reducible first | exact HB.out | apply below_alloc | apply pw_below_drewN | apply below_drew1 | refine below_set ?_ GE141.out) | exact HB.out)⟩⟩
              · rw [if_neg c41] at H
                have c41b0 : (a0_2.toList == ([] : List UInt8)) = false := beq_eq_false_iff_ne.mpr c41
                have c41b1 : (a0_2.toList != ([] : List UInt8)) = true := bne_iff_ne.mpr c41
                have H' := Aside0.mk H
                clear H
                have hcz45_0 : w3.cell? ⟨gb141, 0, none⟩ = some (.int .i64 a0_0) := (blk_cell BK141.out 0).trans rfl
                have hcz45_1 : w3.cell? ⟨gb141, 1, none⟩ = some (.int .i64 a0_1) := (blk_cell BK141.out 1).trans rfl
                have hcz45_2 : w3.cell? ⟨gb141, 2, none⟩ = some (.string a0_2) := (blk_cell BK141.out 2).trans rfl
                have hcz45_3 : w3.cell? ⟨gb141, 3, none⟩ = some (.slice A0_3 l0_3.length c0_3) := (blk_cell BK141.out 3).trans rfl
                have hcz45_4 : w3.cell? ⟨gb141, 4, none⟩ = some (.slice A0_4 l0_4.length c0_4) := (blk_cell BK141.out 4).trans rfl
                have hfz45_0 := blk_frozen BK141.out 0
                have hfz45_1 := blk_frozen BK141.out 1
                have hfz45_2 := blk_frozen BK141.out 2
                have hfz45_3 := blk_frozen BK141.out 3
                have hfz45_4 := blk_frozen BK141.out 4
                go_wp2
                repeat (go_quiet (fail); try go_wp2)
                go_meet
                case rel => exact ⟨_, (true), (by first | rfl | (simp; done) | (simp [*]; done)), H', ⟨by first | omega | exact Nat.le_refl _⟩, ⟨by (with_reducible repeat (first | refine blk_drewN ?_ _ | refine blk_drew ?_ | refine blk_alloc ?_ _)); exact BK141.out⟩, ⟨by repeat (first | (with_reducible first | exact HB.out | apply below_alloc | apply pw_below_drewN | apply below_drew1 | refine below_set ?_ GE141.out) | exact HB.out)⟩⟩
        · rw [if_neg c32] at H
          have c32b0 : (a0_1 == 0) = false := beq_eq_false_iff_ne.mpr c32
          have c32b1 : (a0_1 != 0) = true := bne_iff_ne.mpr c32
          have H' := Aside0.mk H
          clear H
          have hcz46_0 : w3.cell? ⟨gb141, 0, none⟩ = some (.int .i64 a0_0) := (blk_cell BK141.out 0).trans rfl
          have hcz46_1 : w3.cell? ⟨gb141, 1, none⟩ = some (.int .i64 a0_1) := (blk_cell BK141.out 1).trans rfl
          have hcz46_2 : w3.cell? ⟨gb141, 2, none⟩ = some (.string a0_2) := (blk_cell BK141.out 2).trans rfl
          have hcz46_3 : w3.cell? ⟨gb141, 3, none⟩ = some (.slice A0_3 l0_3.length c0_3) := (blk_cell BK141.out 3).trans rfl
          have hcz46_4 : w3.cell? ⟨gb141, 4, none⟩ = some (.slice A0_4 l0_4.length c0_4) := (blk_cell BK141.out 4).trans rfl
          have hfz46_0 := blk_frozen BK141.out 0
          have hfz46_1 := blk_frozen BK141.out 1
          have hfz46_2 := blk_frozen BK141.out 2
          have hfz46_3 := blk_frozen BK141.out 3
          have hfz46_4 := blk_frozen BK141.out 4
          go_wp2
          repeat (go_quiet (fail); try go_wp2)
          go_meet
          case rel => exact ⟨_, (true), (by first | rfl | (simp; done) | (simp [*]; done)), H', ⟨by first | omega | exact Nat.le_refl _⟩, ⟨by (with_reducible repeat (first | refine blk_drewN ?_ _ | refine blk_drew ?_ | refine blk_alloc ?_ _)); exact BK141.out⟩, ⟨by repeat (first | (with_reducible first | exact HB.out | apply below_alloc | apply pw_below_drewN | apply below_drew1 | refine below_set ?_ GE141.out) | exact HB.out)⟩⟩
  case rest =>
    clear HC2
    try clear c1
    try clear c2
    try clear p2
    try clear c3
    try clear c4
    try clear c4b0
    try clear c4b1
    try clear c5
    try clear c5b0
    try clear c5b1
    try clear c6
    try clear c6b0
    try clear c6b1
    try clear c9
    try clear c9b0
    try clear c9b1
    try clear c10
    try clear c10b0
    try clear c10b1
    try clear c13
    try clear c13b0
    try clear c13b1
    try clear c14
    try clear c14b0
    try clear c14b1
    try clear c18
    try clear c18b0
    try clear c18b1
    try clear c19
    try clear c19b0
    try clear c19b1
    try clear c20
    try clear c20b0
    try clear c20b1
    try clear c23
    try clear c23b0
    try clear c23b1
    try clear c24
    try clear c24b0
    try clear c24b1
    try clear c27
    try clear c27b0
    try clear c27b1
    try clear c28
    try clear c28b0
    try clear c28b1
    try clear c32
    try clear c32b0
    try clear c32b1
    try clear c33
    try clear c33b0
    try clear c33b1
    try clear c34
    try clear c34b0
    try clear c34b1
    try clear c37
    try clear c37b0
    try clear c37b1
    try clear c38
    try clear c38b0
    try clear c38b1
    try clear c39
    try clear c41
    try clear c41b0
    try clear c41b1
    try clear c42
    try clear c42b0
    try clear c42b1
    try clear hcz11_0
    try clear hcz11_1
    try clear hcz11_2
    try clear hcz11_3
    try clear hcz11_4
    try clear hcz12_0
    try clear hcz12_1
    try clear hcz12_2
    try clear hcz12_3
    try clear hcz12_4
    try clear hcz15_0
    try clear hcz15_1
    try clear hcz15_2
    try clear hcz15_3
    try clear hcz15_4
    try clear hcz16_0
    try clear hcz16_1
    try clear hcz16_2
    try clear hcz16_3
    try clear hcz16_4
    try clear hcz17_0
    try clear hcz17_1
    try clear hcz17_2
    try clear hcz17_3
    try clear hcz17_4
    try clear hcz21_0
    try clear hcz21_1
    try clear hcz21_2
    try clear hcz21_3
    try clear hcz21_4
    try clear hcz22_0
    try clear hcz22_1
    try clear hcz22_2
    try clear hcz22_3
    try clear hcz22_4
    try clear hcz25_0
    try clear hcz25_1
    try clear hcz25_2
    try clear hcz25_3
    try clear hcz25_4
    try clear hcz26_0
    try clear hcz26_1
    try clear hcz26_2
    try clear hcz26_3
    try clear hcz26_4
    try clear hcz29_0
    try clear hcz29_1
    try clear hcz29_2
    try clear hcz29_3
    try clear hcz29_4
    try clear hcz30_0
    try clear hcz30_1
    try clear hcz30_2
    try clear hcz30_3
    try clear hcz30_4
    try clear hcz31_0
    try clear hcz31_1
    try clear hcz31_2
    try clear hcz31_3
    try clear hcz31_4
    try clear hcz35_0
    try clear hcz35_1
    try clear hcz35_2
    try clear hcz35_3
    try clear hcz35_4
    try clear hcz36_0
    try clear hcz36_1
    try clear hcz36_2
    try clear hcz36_3
    try clear hcz36_4
    try clear hcz39_0
    try clear hcz39_1
    try clear hcz39_2
    try clear hcz39_3
    try clear hcz39_4
    try clear hcz40_0
    try clear hcz40_1
    try clear hcz40_2
    try clear hcz40_3
    try clear hcz40_4
    try clear hcz43_0
    try clear hcz43_1
    try clear hcz43_2
    try clear hcz43_3
    try clear hcz43_4
    try clear hcz44_0
    try clear hcz44_1
    try clear hcz44_2
    try clear hcz44_3
    try clear hcz44_4
    try clear hcz45_0
    try clear hcz45_1
    try clear hcz45_2
    try clear hcz45_3
    try clear hcz45_4
    try clear hcz46_0
    try clear hcz46_1
    try clear hcz46_2
    try clear hcz46_3
    try clear hcz46_4
    try clear hcz7_0
    try clear hcz7_1
    try clear hcz7_2
    try clear hcz7_3
    try clear hcz7_4
    try clear hcz8_0
    try clear hcz8_1
    try clear hcz8_2
    try clear hcz8_3
    try clear hcz8_4
    try clear hfz11_0
    try clear hfz11_1
    try clear hfz11_2
    try clear hfz11_3
    try clear hfz11_4
    try clear hfz12_0
    try clear hfz12_1
    try clear hfz12_2
    try clear hfz12_3
    try clear hfz12_4
    try clear hfz15_0
    try clear hfz15_1
    try clear hfz15_2
    try clear hfz15_3
    try clear hfz15_4
    try clear hfz16_0
    try clear hfz16_1
    try clear hfz16_2
    try clear hfz16_3
    try clear hfz16_4
    try clear hfz17_0
    try clear hfz17_1
    try clear hfz17_2
    try clear hfz17_3
    try clear hfz17_4
    try clear hfz21_0
    try clear hfz21_1
    try clear hfz21_2
    try clear hfz21_3
    try clear hfz21_4
    try clear hfz22_0
    try clear hfz22_1
    try clear hfz22_2
    try clear hfz22_3
    try clear hfz22_4
    try clear hfz25_0
    try clear hfz25_1
    try clear hfz25_2
    try clear hfz25_3
    try clear hfz25_4
    try clear hfz26_0
    try clear hfz26_1
    try clear hfz26_2
    try clear hfz26_3
    try clear hfz26_4
    try clear hfz29_0
    try clear hfz29_1
    try clear hfz29_2
    try clear hfz29_3
    try clear hfz29_4
    try clear hfz30_0
    try clear hfz30_1
    try clear hfz30_2
    try clear hfz30_3
    try clear hfz30_4
    try clear hfz31_0
    try clear hfz31_1
    try clear hfz31_2
    try clear hfz31_3
    try clear hfz31_4
    try clear hfz35_0
    try clear hfz35_1
    try clear hfz35_2
    try clear hfz35_3
    try clear hfz35_4
    try clear hfz36_0
    try clear hfz36_1
    try clear hfz36_2
    try clear hfz36_3
    try clear hfz36_4
    try clear hfz39_0
    try clear hfz39_1
    try clear hfz39_2
    try clear hfz39_3
    try clear hfz39_4
    try clear hfz40_0
    try clear hfz40_1
    try clear hfz40_2
    try clear hfz40_3
    try clear hfz40_4
    try clear hfz43_0
    try clear hfz43_1
    try clear hfz43_2
    try clear hfz43_3
    try clear hfz43_4
    try clear hfz44_0
    try clear hfz44_1
    try clear hfz44_2
    try clear hfz44_3
    try clear hfz44_4
    try clear hfz45_0
    try clear hfz45_1
    try clear hfz45_2
    try clear hfz45_3
    try clear hfz45_4
    try clear hfz46_0
    try clear hfz46_1
    try clear hfz46_2
    try clear hfz46_3
    try clear hfz46_4
    try clear hfz7_0
    try clear hfz7_1
    try clear hfz7_2
    try clear hfz7_3
    try clear hfz7_4
    try clear hfz8_0
    try clear hfz8_1
    try clear hfz8_2
    try clear hfz8_3
    try clear hfz8_4
    obtain ⟨kq, x42_1, rfl, HA, HJ1, BK141, HB⟩ := hcut
    cases kq with
    | zero => exact absurd HA.out (by simp [doorkeeperref1_leaf.j0])
    | succ kj1 =>
      have H := HA.out
      clear HA
      simp only [doorkeeperref1_leaf.j0] at H
      by_cases c47 : x42_1 = true
      · subst c47
        have H1 : (some false) = some r := by rw [if_pos rfl] at H; exact H
        clear H
        have H := H1
        clear H1
        obtain rfl := Option.some.inj H
        go_wp2
        repeat (go_quiet (fail); try go_wp2)
        go_ret
        exact ⟨by first | rfl | (simp [errW_none, errW_some] <;> rfl) | (simp [*, errW_none, errW_some] <;> rfl), by repeat (first | (with_reducible first | exact HB.out | apply below_alloc | apply pw_below_drewN | apply below_drew1 | refine below_set ?_ GE141.out) | exact HB.out)⟩
      · replace c47 := Bool.eq_false_iff.mpr c47
        subst c47
        have H1 : (if a0_0 = 1 then (some (decide (a0_1 ≥ 0))) else (if a0_0 = 3 then (if a0_1 = 0 then (some true) else (some (a0_1 == 1))) else (if a0_0 = 2 then ((doorkeeperref1_mayParts.f kj1 l0_3).bind fun t142 => (some t142)) else (if a0_0 = 4 then ((doorkeeperref1_nameEnd.f kj1 a0_2 0).bind fun t143 => (if 0 ≤ t143 then (if t143 ≤ (a0_2.size : Int) then ((doorkeeperref1_Dotted.f kj1 a0_2).bind fun t144 => (if t144 = true then (if (a0_2.extract 0 (t143 : Int).toNat).toList = ([116, 114, 117, 101] : List UInt8) then (some false) else (some ((a0_2.extract 0 (t143 : Int).toNat).toList != ([102, 97, 108, 115, 101] : List UInt8)))) else (some false))) else (none)) else (none))) else (if a0_0 = 5 then ((doorkeeperref1_Name.f kj1 a0_2).bind fun t145 => (if t145 = true then (if a0_2.toList = ([116, 114, 117, 101] : List UInt8) then (some false) else (some (a0_2.toList != ([102, 97, 108, 115, 101] : List UInt8)))) else (some false))) else (some true)))))) = some r := by rw [if_neg (show ¬ (false = true) by decide)] at H; exact H
        clear H
        have H := H1
        clear H1
        by_cases c48 : a0_0 = 1
        · rw [if_pos c48] at H
          have c48b0 : (a0_0 == 1) = true := beq_iff_eq.mpr c48
          have c48b1 : (a0_0 != 1) = false := bne_eq_false_iff_eq.mpr c48
          clear c48
          obtain rfl := Option.some.inj H
          have hcz49_0 : wc.cell? ⟨gb141, 0, none⟩ = some (.int .i64 a0_0) := (blk_cell BK141.out 0).trans rfl
          have hcz49_1 : wc.cell? ⟨gb141, 1, none⟩ = some (.int .i64 a0_1) := (blk_cell BK141.out 1).trans rfl
          have hcz49_2 : wc.cell? ⟨gb141, 2, none⟩ = some (.string a0_2) := (blk_cell BK141.out 2).trans rfl
          have hcz49_3 : wc.cell? ⟨gb141, 3, none⟩ = some (.slice A0_3 l0_3.length c0_3) := (blk_cell BK141.out 3).trans rfl
          have hcz49_4 : wc.cell? ⟨gb141, 4, none⟩ = some (.slice A0_4 l0_4.length c0_4) := (blk_cell BK141.out 4).trans rfl
          have hfz49_0 := blk_frozen BK141.out 0
          have hfz49_1 := blk_frozen BK141.out 1
          have hfz49_2 := blk_frozen BK141.out 2
          have hfz49_3 := blk_frozen BK141.out 3
          have hfz49_4 := blk_frozen BK141.out 4
          go_wp2
          repeat (go_quiet (fail); try go_wp2)
          go_ret
          exact ⟨by first | rfl | (simp [errW_none, errW_some] <;> rfl) | (simp [*, errW_none, errW_some] <;> rfl), by repeat (first | (with_reducible first | exact HB.out | apply below_alloc | apply pw_below_drewN | apply below_drew1 | refine below_set ?_ GE141.out) | exact HB.out)⟩
        · rw [if_neg c48] at H
          have c48b0 : (a0_0 == 1) = false := beq_eq_false_iff_ne.mpr c48
          have c48b1 : (a0_0 != 1) = true := bne_iff_ne.mpr c48
          by_cases c50 : a0_0 = 3
          · rw [if_pos c50] at H
            have c50b0 : (a0_0 == 3) = true := beq_iff_eq.mpr c50
            have c50b1 : (a0_0 != 3) = false := bne_eq_false_iff_eq.mpr c50
            clear c50
            by_cases c51 : a0_1 = 0
            · rw [if_pos c51] at H
              have c51b0 : (a0_1 == 0) = true := beq_iff_eq.mpr c51
              have c51b1 : (a0_1 != 0) = false := bne_eq_false_iff_eq.mpr c51
              clear c51
              obtain rfl := Option.some.inj H
              have hcz52_0 : wc.cell? ⟨gb141, 0, none⟩ = some (.int .i64 a0_0) := (blk_cell BK141.out 0).trans rfl
              have hcz52_1 : wc.cell? ⟨gb141, 1, none⟩ = some (.int .i64 a0_1) := (blk_cell BK141.out 1).trans rfl
              have hcz52_2 : wc.cell? ⟨gb141, 2, none⟩ = some (.string a0_2) := (blk_cell BK141.out 2).trans rfl
              have hcz52_3 : wc.cell? ⟨gb141, 3, none⟩ = some (.slice A0_3 l0_3.length c0_3) := (blk_cell BK141.out 3).trans rfl
              have hcz52_4 : wc.cell? ⟨gb141, 4, none⟩ = some (.slice A0_4 l0_4.length c0_4) := (blk_cell BK141.out 4).trans rfl
              have hfz52_0 := blk_frozen BK141.out 0
              have hfz52_1 := blk_frozen BK141.out 1
              have hfz52_2 := blk_frozen BK141.out 2
              have hfz52_3 := blk_frozen BK141.out 3
              have hfz52_4 := blk_frozen BK141.out 4
              go_wp2
              repeat (go_quiet (fail); try go_wp2)
              go_ret
              exact ⟨by first | rfl | (simp [errW_none, errW_some] <;> rfl) | (simp [*, errW_none, errW_some] <;> rfl), by repeat (first | (with_reducible first | exact HB.out | apply below_alloc | apply pw_below_drewN | apply below_drew1 | refine below_set ?_ GE141.out) | exact HB.out)⟩
            · rw [if_neg c51] at H
              have c51b0 : (a0_1 == 0) = false := beq_eq_false_iff_ne.mpr c51
              have c51b1 : (a0_1 != 0) = true := bne_iff_ne.mpr c51
              obtain rfl := Option.some.inj H
              have hcz53_0 : wc.cell? ⟨gb141, 0, none⟩ = some (.int .i64 a0_0) := (blk_cell BK141.out 0).trans rfl
              have hcz53_1 : wc.cell? ⟨gb141, 1, none⟩ = some (.int .i64 a0_1) := (blk_cell BK141.out 1).trans rfl
              have hcz53_2 : wc.cell? ⟨gb141, 2, none⟩ = some (.string a0_2) := (blk_cell BK141.out 2).trans rfl
              have hcz53_3 : wc.cell? ⟨gb141, 3, none⟩ = some (.slice A0_3 l0_3.length c0_3) := (blk_cell BK141.out 3).trans rfl
              have hcz53_4 : wc.cell? ⟨gb141, 4, none⟩ = some (.slice A0_4 l0_4.length c0_4) := (blk_cell BK141.out 4).trans rfl
              have hfz53_0 := blk_frozen BK141.out 0
              have hfz53_1 := blk_frozen BK141.out 1
              have hfz53_2 := blk_frozen BK141.out 2
              have hfz53_3 := blk_frozen BK141.out 3
              have hfz53_4 := blk_frozen BK141.out 4
              go_wp2
              repeat (go_quiet (fail); try go_wp2)
              go_ret
              exact ⟨by first | rfl | (simp [errW_none, errW_some] <;> rfl) | (simp [*, errW_none, errW_some] <;> rfl), by repeat (first | (with_reducible first | exact HB.out | apply below_alloc | apply pw_below_drewN | apply below_drew1 | refine below_set ?_ GE141.out) | exact HB.out)⟩
          · rw [if_neg c50] at H
            have c50b0 : (a0_0 == 3) = false := beq_eq_false_iff_ne.mpr c50
            have c50b1 : (a0_0 != 3) = true := bne_iff_ne.mpr c50
            by_cases c54 : a0_0 = 2
            · rw [if_pos c54] at H
              have c54b0 : (a0_0 == 2) = true := beq_iff_eq.mpr c54
              have c54b1 : (a0_0 != 2) = false := bne_eq_false_iff_eq.mpr c54
              clear c54
              replace H := Option.bind_eq_some_iff.mp H
              obtain ⟨t142, A550, H⟩ := H
              replace H : (some t142) = some r := H
              have A55 := Aside0.mk A550
              clear A550
              obtain rfl := Option.some.inj H
              have hcz56_0 : wc.cell? ⟨gb141, 0, none⟩ = some (.int .i64 a0_0) := (blk_cell BK141.out 0).trans rfl
              have hcz56_1 : wc.cell? ⟨gb141, 1, none⟩ = some (.int .i64 a0_1) := (blk_cell BK141.out 1).trans rfl
              have hcz56_2 : wc.cell? ⟨gb141, 2, none⟩ = some (.string a0_2) := (blk_cell BK141.out 2).trans rfl
              have hcz56_3 : wc.cell? ⟨gb141, 3, none⟩ = some (.slice A0_3 l0_3.length c0_3) := (blk_cell BK141.out 3).trans rfl
              have hcz56_4 : wc.cell? ⟨gb141, 4, none⟩ = some (.slice A0_4 l0_4.length c0_4) := (blk_cell BK141.out 4).trans rfl
              have hfz56_0 := blk_frozen BK141.out 0
              have hfz56_1 := blk_frozen BK141.out 1
              have hfz56_2 := blk_frozen BK141.out 2
              have hfz56_3 := blk_frozen BK141.out 3
              have hfz56_4 := blk_frozen BK141.out 4
              go_wp2_with (first | (go_at_call 47; (with_reducible refine (doorkeeperref1_mayParts.calls kj1 _ _ l0_3 t142 _ ?side1 ?side2 A55.out).mono ?_); (case side1 => repeat (first | exact (Kd.C_below HR0_3.out HB.out) | (with_reducible refine Kd.C_alloc ?_ _) | (with_reducible refine Kd.C_drewN ?_ _) | (with_reducible refine Kd.C_drew ?_))); (case side2 => exact HC0_3.out); rintro e w' ⟨rfl, ⟨nd, rfl⟩⟩; (try first | exact ⟨rfl, _, World.drewN_drewN _ _ _⟩ | exact ⟨rfl, _, Eq.trans (World.drewN_drewN _ _ _) (congrArg (World.drewN _) (Nat.add_assoc _ _ _))⟩)))
              repeat (go_quiet (first | (go_at_call 47; (with_reducible refine (doorkeeperref1_mayParts.calls kj1 _ _ l0_3 t142 _ ?side1 ?side2 A55.out).mono ?_); (case side1 => repeat (first | exact (Kd.C_below HR0_3.out HB.out) | (with_reducible refine Kd.C_alloc ?_ _) | (with_reducible refine Kd.C_drewN ?_ _) | (with_reducible refine Kd.C_drew ?_))); (case side2 => exact HC0_3.out); rintro e w' ⟨rfl, ⟨nd, rfl⟩⟩; (try first | exact ⟨rfl, _, World.drewN_drewN _ _ _⟩ | exact ⟨rfl, _, Eq.trans (World.drewN_drewN _ _ _) (congrArg (World.drewN _) (Nat.add_assoc _ _ _))⟩))); try go_wp2_with (first | (go_at_call 47; (with_reducible refine (doorkeeperref1_mayParts.calls kj1 _ _ l0_3 t142 _ ?side1 ?side2 A55.out).mono ?_); (case side1 => repeat (first | exact (Kd.C_below HR0_3.out HB.out) | (with_reducible refine Kd.C_alloc ?_ _) | (with_reducible refine Kd.C_drewN ?_ _) | (with_reducible refine Kd.C_drew ?_))); (case side2 => exact HC0_3.out); rintro e w' ⟨rfl, ⟨nd, rfl⟩⟩; (try first | exact ⟨rfl, _, World.drewN_drewN _ _ _⟩ | exact ⟨rfl, _, Eq.trans (World.drewN_drewN _ _ _) (congrArg (World.drewN _) (Nat.add_assoc _ _ _))⟩))))
              go_ret
              exact ⟨by first | rfl | (simp [errW_none, errW_some] <;> rfl) | (simp [*, errW_none, errW_some] <;> rfl), by repeat (first | (with_reducible first | exact HB.out | apply below_alloc | apply pw_below_drewN | apply below_drew1 | refine below_set ?_ GE141.out) | exact HB.out)⟩
            · rw [if_neg c54] at H
              have c54b0 : (a0_0 == 2) = false := beq_eq_false_iff_ne.mpr c54
              have c54b1 : (a0_0 != 2) = true := bne_iff_ne.mpr c54
              by_cases c57 : a0_0 = 4
              · rw [if_pos c57] at H
                have c57b0 : (a0_0 == 4) = true := beq_iff_eq.mpr c57
                have c57b1 : (a0_0 != 4) = false := bne_eq_false_iff_eq.mpr c57
                clear c57
                replace H := Option.bind_eq_some_iff.mp H
                obtain ⟨t143, A580, H⟩ := H
                replace H : (if 0 ≤ t143 then (if t143 ≤ (a0_2.size : Int) then ((doorkeeperref1_Dotted.f kj1 a0_2).bind fun t144 => (if t144 = true then (if (a0_2.extract 0 (t143 : Int).toNat).toList = ([116, 114, 117, 101] : List UInt8) then (some false) else (some ((a0_2.extract 0 (t143 : Int).toNat).toList != ([102, 97, 108, 115, 101] : List UInt8)))) else (some false))) else (none)) else (none)) = some r := H
                have A58 := Aside0.mk A580
                clear A580
                by_cases c59 : 0 ≤ t143
                · rw [if_pos c59] at H
                  have c59b0 := eq_true c59
                  have c59b1 : decide (0 ≤ t143) = true := decide_eq_true c59
                  clear c59
                  by_cases c60 : t143 ≤ (a0_2.size : Int)
                  · rw [if_pos c60] at H
                    have c60b0 := eq_true c60
                    have c60b1 : decide (t143 ≤ (a0_2.size : Int)) = true := decide_eq_true c60
                    clear c60
                    replace H := Option.bind_eq_some_iff.mp H
                    obtain ⟨t144, A610, H⟩ := H
                    replace H : (if t144 = true then (if (a0_2.extract 0 (t143 : Int).toNat).toList = ([116, 114, 117, 101] : List UInt8) then (some false) else (some ((a0_2.extract 0 (t143 : Int).toNat).toList != ([102, 97, 108, 115, 101] : List UInt8)))) else (some false)) = some r := H
                    have A61 := Aside0.mk A610
                    clear A610
                    by_cases c62 : t144 = true
                    · subst c62
                      have H1 : (if (a0_2.extract 0 (t143 : Int).toNat).toList = ([116, 114, 117, 101] : List UInt8) then (some false) else (some ((a0_2.extract 0 (t143 : Int).toNat).toList != ([102, 97, 108, 115, 101] : List UInt8)))) = some r := by rw [if_pos rfl] at H; exact H
                      clear H
                      have H := H1
                      clear H1
                      by_cases c63 : (a0_2.extract 0 (t143 : Int).toNat).toList = ([116, 114, 117, 101] : List UInt8)
                      · rw [if_pos c63] at H
                        have c63b0 : ((a0_2.extract 0 (t143 : Int).toNat).toList == ([116, 114, 117, 101] : List UInt8)) = true := beq_iff_eq.mpr c63
                        have c63b1 : ((a0_2.extract 0 (t143 : Int).toNat).toList != ([116, 114, 117, 101] : List UInt8)) = false := bne_eq_false_iff_eq.mpr c63
                        clear c63
                        obtain rfl := Option.some.inj H
                        have hcz64_0 : wc.cell? ⟨gb141, 0, none⟩ = some (.int .i64 a0_0) := (blk_cell BK141.out 0).trans rfl
                        have hcz64_1 : wc.cell? ⟨gb141, 1, none⟩ = some (.int .i64 a0_1) := (blk_cell BK141.out 1).trans rfl
                        have hcz64_2 : wc.cell? ⟨gb141, 2, none⟩ = some (.string a0_2) := (blk_cell BK141.out 2).trans rfl
                        have hcz64_3 : wc.cell? ⟨gb141, 3, none⟩ = some (.slice A0_3 l0_3.length c0_3) := (blk_cell BK141.out 3).trans rfl
                        have hcz64_4 : wc.cell? ⟨gb141, 4, none⟩ = some (.slice A0_4 l0_4.length c0_4) := (blk_cell BK141.out 4).trans rfl
                        have hfz64_0 := blk_frozen BK141.out 0
                        have hfz64_1 := blk_frozen BK141.out 1
                        have hfz64_2 := blk_frozen BK141.out 2
                        have hfz64_3 := blk_frozen BK141.out 3
                        have hfz64_4 := blk_frozen BK141.out 4
                        go_wp2_with (first | (go_at_call 48; (with_reducible refine (doorkeeperref1_nameEnd.calls kj1 a0_2 0 t143 _ A58.out).mono ?_); rintro e w' ⟨rfl, ⟨nd, rfl⟩⟩; (try first | exact ⟨rfl, _, World.drewN_drewN _ _ _⟩ | exact ⟨rfl, _, Eq.trans (World.drewN_drewN _ _ _) (congrArg (World.drewN _) (Nat.add_assoc _ _ _))⟩)) | (go_at_call 49; (with_reducible refine (doorkeeperref1_Dotted.calls kj1 a0_2 true _ A61.out).mono ?_); rintro e w' ⟨rfl, ⟨nd, rfl⟩⟩; (try first | exact ⟨rfl, _, World.drewN_drewN _ _ _⟩ | exact ⟨rfl, _, Eq.trans (World.drewN_drewN _ _ _) (congrArg (World.drewN _) (Nat.add_assoc _ _ _))⟩)))
                        repeat (go_quiet (first | (go_at_call 48; (with_reducible refine (doorkeeperref1_nameEnd.calls kj1 a0_2 0 t143 _ A58.out).mono ?_); rintro e w' ⟨rfl, ⟨nd, rfl⟩⟩; (try first | exact ⟨rfl, _, World.drewN_drewN _ _ _⟩ | exact ⟨rfl, _, Eq.trans (World.drewN_drewN _ _ _) (congrArg (World.drewN _) (Nat.add_assoc _ _ _))⟩)) | (go_at_call 49; (with_reducible refine (doorkeeperref1_Dotted.calls kj1 a0_2 true _ A61.out).mono ?_); rintro e w' ⟨rfl, ⟨nd, rfl⟩⟩; (try first | exact ⟨rfl, _, World.drewN_drewN _ _ _⟩ | exact ⟨rfl, _, Eq.trans (World.drewN_drewN _ _ _) (congrArg (World.drewN _) (Nat.add_assoc _ _ _))⟩))); try go_wp2_with (first | (go_at_call 48; (with_reducible refine (doorkeeperref1_nameEnd.calls kj1 a0_2 0 t143 _ A58.out).mono ?_); rintro e w' ⟨rfl, ⟨nd, rfl⟩⟩; (try first | exact ⟨rfl, _, World.drewN_drewN _ _ _⟩ | exact ⟨rfl, _, Eq.trans (World.drewN_drewN _ _ _) (congrArg (World.drewN _) (Nat.add_assoc _ _ _))⟩)) | (go_at_call 49; (with_reducible refine (doorkeeperref1_Dotted.calls kj1 a0_2 true _ A61.out).mono ?_); rintro e w' ⟨rfl, ⟨nd, rfl⟩⟩; (try first | exact ⟨rfl, _, World.drewN_drewN _ _ _⟩ | exact ⟨rfl, _, Eq.trans (World.drewN_drewN _ _ _) (congrArg (World.drewN _) (Nat.add_assoc _ _ _))⟩))))
                        go_ret
                        exact ⟨by first | rfl | (simp [errW_none, errW_some] <;> rfl) | (simp [*, errW_none, errW_some] <;> rfl), by repeat (first | (with_reducible first | exact HB.out | apply below_alloc | apply pw_below_drewN | apply below_drew1 | refine below_set ?_ GE141.out) | exact HB.out)⟩
                      · rw [if_neg c63] at H
                        have c63b0 : ((a0_2.extract 0 (t143 : Int).toNat).toList == ([116, 114, 117, 101] : List UInt8)) = false := beq_eq_false_iff_ne.mpr c63
                        have c63b1 : ((a0_2.extract 0 (t143 : Int).toNat).toList != ([116, 114, 117, 101] : List UInt8)) = true := bne_iff_ne.mpr c63
                        obtain rfl := Option.some.inj H
                        have hcz65_0 : wc.cell? ⟨gb141, 0, none⟩ = some (.int .i64 a0_0) := (blk_cell BK141.out 0).trans rfl
                        have hcz65_1 : wc.cell? ⟨gb141, 1, none⟩ = some (.int .i64 a0_1) := (blk_cell BK141.out 1).trans rfl
                        have hcz65_2 : wc.cell? ⟨gb141, 2, none⟩ = some (.string a0_2) := (blk_cell BK141.out 2).trans rfl
                        have hcz65_3 : wc.cell? ⟨gb141, 3, none⟩ = some (.slice A0_3 l0_3.length c0_3) := (blk_cell BK141.out 3).trans rfl
                        have hcz65_4 : wc.cell? ⟨gb141, 4, none⟩ = some (.slice A0_4 l0_4.length c0_4) := (blk_cell BK141.out 4).trans rfl
                        have hfz65_0 := blk_frozen BK141.out 0
                        have hfz65_1 := blk_frozen BK141.out 1
                        have hfz65_2 := blk_frozen BK141.out 2
                        have hfz65_3 := blk_frozen BK141.out 3
                        have hfz65_4 := blk_frozen BK141.out 4
                        go_wp2_with (first | (go_at_call 48; (with_reducible refine (doorkeeperref1_nameEnd.calls kj1 a0_2 0 t143 _ A58.out).mono ?_); rintro e w' ⟨rfl, ⟨nd, rfl⟩⟩; (try first | exact ⟨rfl, _, World.drewN_drewN _ _ _⟩ | exact ⟨rfl, _, Eq.trans (World.drewN_drewN _ _ _) (congrArg (World.drewN _) (Nat.add_assoc _ _ _))⟩)) | (go_at_call 49; (with_reducible refine (doorkeeperref1_Dotted.calls kj1 a0_2 true _ A61.out).mono ?_); rintro e w' ⟨rfl, ⟨nd, rfl⟩⟩; (try first | exact ⟨rfl, _, World.drewN_drewN _ _ _⟩ | exact ⟨rfl, _, Eq.trans (World.drewN_drewN _ _ _) (congrArg (World.drewN _) (Nat.add_assoc _ _ _))⟩)))
                        repeat (go_quiet (first | (go_at_call 48; (with_reducible refine (doorkeeperref1_nameEnd.calls kj1 a0_2 0 t143 _ A58.out).mono ?_); rintro e w' ⟨rfl, ⟨nd, rfl⟩⟩; (try first | exact ⟨rfl, _, World.drewN_drewN _ _ _⟩ | exact ⟨rfl, _, Eq.trans (World.drewN_drewN _ _ _) (congrArg (World.drewN _) (Nat.add_assoc _ _ _))⟩)) | (go_at_call 49; (with_reducible refine (doorkeeperref1_Dotted.calls kj1 a0_2 true _ A61.out).mono ?_); rintro e w' ⟨rfl, ⟨nd, rfl⟩⟩; (try first | exact ⟨rfl, _, World.drewN_drewN _ _ _⟩ | exact ⟨rfl, _, Eq.trans (World.drewN_drewN _ _ _) (congrArg (World.drewN _) (Nat.add_assoc _ _ _))⟩))); try go_wp2_with (first | (go_at_call 48; (with_reducible refine (doorkeeperref1_nameEnd.calls kj1 a0_2 0 t143 _ A58.out).mono ?_); rintro e w' ⟨rfl, ⟨nd, rfl⟩⟩; (try first | exact ⟨rfl, _, World.drewN_drewN _ _ _⟩ | exact ⟨rfl, _, Eq.trans (World.drewN_drewN _ _ _) (congrArg (World.drewN _) (Nat.add_assoc _ _ _))⟩)) | (go_at_call 49; (with_reducible refine (doorkeeperref1_Dotted.calls kj1 a0_2 true _ A61.out).mono ?_); rintro e w' ⟨rfl, ⟨nd, rfl⟩⟩; (try first | exact ⟨rfl, _, World.drewN_drewN _ _ _⟩ | exact ⟨rfl, _, Eq.trans (World.drewN_drewN _ _ _) (congrArg (World.drewN _) (Nat.add_assoc _ _ _))⟩))))
                        go_ret
                        exact ⟨by first | rfl | (simp [errW_none, errW_some] <;> rfl) | (simp [*, errW_none, errW_some] <;> rfl), by repeat (first | (with_reducible first | exact HB.out | apply below_alloc | apply pw_below_drewN | apply below_drew1 | refine below_set ?_ GE141.out) | exact HB.out)⟩
                    · replace c62 := Bool.eq_false_iff.mpr c62
                      subst c62
                      have H1 : (some false) = some r := by rw [if_neg (show ¬ (false = true) by decide)] at H; exact H
                      clear H
                      have H := H1
                      clear H1
                      obtain rfl := Option.some.inj H
                      have hcz66_0 : wc.cell? ⟨gb141, 0, none⟩ = some (.int .i64 a0_0) := (blk_cell BK141.out 0).trans rfl
                      have hcz66_1 : wc.cell? ⟨gb141, 1, none⟩ = some (.int .i64 a0_1) := (blk_cell BK141.out 1).trans rfl
                      have hcz66_2 : wc.cell? ⟨gb141, 2, none⟩ = some (.string a0_2) := (blk_cell BK141.out 2).trans rfl
                      have hcz66_3 : wc.cell? ⟨gb141, 3, none⟩ = some (.slice A0_3 l0_3.length c0_3) := (blk_cell BK141.out 3).trans rfl
                      have hcz66_4 : wc.cell? ⟨gb141, 4, none⟩ = some (.slice A0_4 l0_4.length c0_4) := (blk_cell BK141.out 4).trans rfl
                      have hfz66_0 := blk_frozen BK141.out 0
                      have hfz66_1 := blk_frozen BK141.out 1
                      have hfz66_2 := blk_frozen BK141.out 2
                      have hfz66_3 := blk_frozen BK141.out 3
                      have hfz66_4 := blk_frozen BK141.out 4
                      go_wp2_with (first | (go_at_call 48; (with_reducible refine (doorkeeperref1_nameEnd.calls kj1 a0_2 0 t143 _ A58.out).mono ?_); rintro e w' ⟨rfl, ⟨nd, rfl⟩⟩; (try first | exact ⟨rfl, _, World.drewN_drewN _ _ _⟩ | exact ⟨rfl, _, Eq.trans (World.drewN_drewN _ _ _) (congrArg (World.drewN _) (Nat.add_assoc _ _ _))⟩)) | (go_at_call 49; (with_reducible refine (doorkeeperref1_Dotted.calls kj1 a0_2 false _ A61.out).mono ?_); rintro e w' ⟨rfl, ⟨nd, rfl⟩⟩; (try first | exact ⟨rfl, _, World.drewN_drewN _ _ _⟩ | exact ⟨rfl, _, Eq.trans (World.drewN_drewN _ _ _) (congrArg (World.drewN _) (Nat.add_assoc _ _ _))⟩)))
                      repeat (go_quiet (first | (go_at_call 48; (with_reducible refine (doorkeeperref1_nameEnd.calls kj1 a0_2 0 t143 _ A58.out).mono ?_); rintro e w' ⟨rfl, ⟨nd, rfl⟩⟩; (try first | exact ⟨rfl, _, World.drewN_drewN _ _ _⟩ | exact ⟨rfl, _, Eq.trans (World.drewN_drewN _ _ _) (congrArg (World.drewN _) (Nat.add_assoc _ _ _))⟩)) | (go_at_call 49; (with_reducible refine (doorkeeperref1_Dotted.calls kj1 a0_2 false _ A61.out).mono ?_); rintro e w' ⟨rfl, ⟨nd, rfl⟩⟩; (try first | exact ⟨rfl, _, World.drewN_drewN _ _ _⟩ | exact ⟨rfl, _, Eq.trans (World.drewN_drewN _ _ _) (congrArg (World.drewN _) (Nat.add_assoc _ _ _))⟩))); try go_wp2_with (first | (go_at_call 48; (with_reducible refine (doorkeeperref1_nameEnd.calls kj1 a0_2 0 t143 _ A58.out).mono ?_); rintro e w' ⟨rfl, ⟨nd, rfl⟩⟩; (try first | exact ⟨rfl, _, World.drewN_drewN _ _ _⟩ | exact ⟨rfl, _, Eq.trans (World.drewN_drewN _ _ _) (congrArg (World.drewN _) (Nat.add_assoc _ _ _))⟩)) | (go_at_call 49; (with_reducible refine (doorkeeperref1_Dotted.calls kj1 a0_2 false _ A61.out).mono ?_); rintro e w' ⟨rfl, ⟨nd, rfl⟩⟩; (try first | exact ⟨rfl, _, World.drewN_drewN _ _ _⟩ | exact ⟨rfl, _, Eq.trans (World.drewN_drewN _ _ _) (congrArg (World.drewN _) (Nat.add_assoc _ _ _))⟩))))
                      go_ret
                      exact ⟨by first | rfl | (simp [errW_none, errW_some] <;> rfl) | (simp [*, errW_none, errW_some] <;> rfl), by repeat (first | (with_reducible first | exact HB.out | apply below_alloc | apply pw_below_drewN | apply below_drew1 | refine below_set ?_ GE141.out) | exact HB.out)⟩
                  · rw [if_neg c60] at H
                    exact absurd H (by simp)
                · rw [if_neg c59] at H
                  exact absurd H (by simp)
              · rw [if_neg c57] at H
                have c57b0 : (a0_0 == 4) = false := beq_eq_false_iff_ne.mpr c57
                have c57b1 : (a0_0 != 4) = true := bne_iff_ne.mpr c57
                by_cases c67 : a0_0 = 5
                · rw [if_pos c67] at H
                  have c67b0 : (a0_0 == 5) = true := beq_iff_eq.mpr c67
                  have c67b1 : (a0_0 != 5) = false := bne_eq_false_iff_eq.mpr c67
                  clear c67
                  replace H := Option.bind_eq_some_iff.mp H
                  obtain ⟨t145, A680, H⟩ := H
                  replace H : (if t145 = true then (if a0_2.toList = ([116, 114, 117, 101] : List UInt8) then (some false) else (some (a0_2.toList != ([102, 97, 108, 115, 101] : List UInt8)))) else (some false)) = some r := H
                  have A68 := Aside0.mk A680
                  clear A680
                  by_cases c69 : t145 = true
                  · subst c69
                    have H1 : (if a0_2.toList = ([116, 114, 117, 101] : List UInt8) then (some false) else (some (a0_2.toList != ([102, 97, 108, 115, 101] : List UInt8)))) = some r := by rw [if_pos rfl] at H; exact H
                    clear H
                    have H := H1
                    clear H1
                    by_cases c70 : a0_2.toList = ([116, 114, 117, 101] : List UInt8)
                    · rw [if_pos c70] at H
                      have c70b0 : (a0_2.toList == ([116, 114, 117, 101] : List UInt8)) = true := beq_iff_eq.mpr c70
                      have c70b1 : (a0_2.toList != ([116, 114, 117, 101] : List UInt8)) = false := bne_eq_false_iff_eq.mpr c70
                      clear c70
                      obtain rfl := Option.some.inj H
                      have hcz71_0 : wc.cell? ⟨gb141, 0, none⟩ = some (.int .i64 a0_0) := (blk_cell BK141.out 0).trans rfl
                      have hcz71_1 : wc.cell? ⟨gb141, 1, none⟩ = some (.int .i64 a0_1) := (blk_cell BK141.out 1).trans rfl
                      have hcz71_2 : wc.cell? ⟨gb141, 2, none⟩ = some (.string a0_2) := (blk_cell BK141.out 2).trans rfl
                      have hcz71_3 : wc.cell? ⟨gb141, 3, none⟩ = some (.slice A0_3 l0_3.length c0_3) := (blk_cell BK141.out 3).trans rfl
                      have hcz71_4 : wc.cell? ⟨gb141, 4, none⟩ = some (.slice A0_4 l0_4.length c0_4) := (blk_cell BK141.out 4).trans rfl
                      have hfz71_0 := blk_frozen BK141.out 0
                      have hfz71_1 := blk_frozen BK141.out 1
                      have hfz71_2 := blk_frozen BK141.out 2
                      have hfz71_3 := blk_frozen BK141.out 3
                      have hfz71_4 := blk_frozen BK141.out 4
                      go_wp2_with (first | (go_at_call 50; (with_reducible refine (doorkeeperref1_Name.calls kj1 a0_2 true _ A68.out).mono ?_); rintro e w' ⟨rfl, ⟨nd, rfl⟩⟩; (try first | exact ⟨rfl, _, World.drewN_drewN _ _ _⟩ | exact ⟨rfl, _, Eq.trans (World.drewN_drewN _ _ _) (congrArg (World.drewN _) (Nat.add_assoc _ _ _))⟩)))
                      repeat (go_quiet (first | (go_at_call 50; (with_reducible refine (doorkeeperref1_Name.calls kj1 a0_2 true _ A68.out).mono ?_); rintro e w' ⟨rfl, ⟨nd, rfl⟩⟩; (try first | exact ⟨rfl, _, World.drewN_drewN _ _ _⟩ | exact ⟨rfl, _, Eq.trans (World.drewN_drewN _ _ _) (congrArg (World.drewN _) (Nat.add_assoc _ _ _))⟩))); try go_wp2_with (first | (go_at_call 50; (with_reducible refine (doorkeeperref1_Name.calls kj1 a0_2 true _ A68.out).mono ?_); rintro e w' ⟨rfl, ⟨nd, rfl⟩⟩; (try first | exact ⟨rfl, _, World.drewN_drewN _ _ _⟩ | exact ⟨rfl, _, Eq.trans (World.drewN_drewN _ _ _) (congrArg (World.drewN _) (Nat.add_assoc _ _ _))⟩))))
                      go_ret
                      exact ⟨by first | rfl | (simp [errW_none, errW_some] <;> rfl) | (simp [*, errW_none, errW_some] <;> rfl), by repeat (first | (with_reducible first | exact HB.out | apply below_alloc | apply pw_below_drewN | apply below_drew1 | refine below_set ?_ GE141.out) | exact HB.out)⟩
                    · rw [if_neg c70] at H
                      have c70b0 : (a0_2.toList == ([116, 114, 117, 101] : List UInt8)) = false := beq_eq_false_iff_ne.mpr c70
                      have c70b1 : (a0_2.toList != ([116, 114, 117, 101] : List UInt8)) = true := bne_iff_ne.mpr c70
                      obtain rfl := Option.some.inj H
                      have hcz72_0 : wc.cell? ⟨gb141, 0, none⟩ = some (.int .i64 a0_0) := (blk_cell BK141.out 0).trans rfl
                      have hcz72_1 : wc.cell? ⟨gb141, 1, none⟩ = some (.int .i64 a0_1) := (blk_cell BK141.out 1).trans rfl
                      have hcz72_2 : wc.cell? ⟨gb141, 2, none⟩ = some (.string a0_2) := (blk_cell BK141.out 2).trans rfl
                      have hcz72_3 : wc.cell? ⟨gb141, 3, none⟩ = some (.slice A0_3 l0_3.length c0_3) := (blk_cell BK141.out 3).trans rfl
                      have hcz72_4 : wc.cell? ⟨gb141, 4, none⟩ = some (.slice A0_4 l0_4.length c0_4) := (blk_cell BK141.out 4).trans rfl
                      have hfz72_0 := blk_frozen BK141.out 0
                      have hfz72_1 := blk_frozen BK141.out 1
                      have hfz72_2 := blk_frozen BK141.out 2
                      have hfz72_3 := blk_frozen BK141.out 3
                      have hfz72_4 := blk_frozen BK141.out 4
                      go_wp2_with (first | (go_at_call 50; (with_reducible refine (doorkeeperref1_Name.calls kj1 a0_2 true _ A68.out).mono ?_); rintro e w' ⟨rfl, ⟨nd, rfl⟩⟩; (try first | exact ⟨rfl, _, World.drewN_drewN _ _ _⟩ | exact ⟨rfl, _, Eq.trans (World.drewN_drewN _ _ _) (congrArg (World.drewN _) (Nat.add_assoc _ _ _))⟩)))
                      repeat (go_quiet (first | (go_at_call 50; (with_reducible refine (doorkeeperref1_Name.calls kj1 a0_2 true _ A68.out).mono ?_); rintro e w' ⟨rfl, ⟨nd, rfl⟩⟩; (try first | exact ⟨rfl, _, World.drewN_drewN _ _ _⟩ | exact ⟨rfl, _, Eq.trans (World.drewN_drewN _ _ _) (congrArg (World.drewN _) (Nat.add_assoc _ _ _))⟩))); try go_wp2_with (first | (go_at_call 50; (with_reducible refine (doorkeeperref1_Name.calls kj1 a0_2 true _ A68.out).mono ?_); rintro e w' ⟨rfl, ⟨nd, rfl⟩⟩; (try first | exact ⟨rfl, _, World.drewN_drewN _ _ _⟩ | exact ⟨rfl, _, Eq.trans (World.drewN_drewN _ _ _) (congrArg (World.drewN _) (Nat.add_assoc _ _ _))⟩))))
                      go_ret
                      exact ⟨by first | rfl | (simp [errW_none, errW_some] <;> rfl) | (simp [*, errW_none, errW_some] <;> rfl), by repeat (first | (with_reducible first | exact HB.out | apply below_alloc | apply pw_below_drewN | apply below_drew1 | refine below_set ?_ GE141.out) | exact HB.out)⟩
                  · replace c69 := Bool.eq_false_iff.mpr c69
                    subst c69
                    have H1 : (some false) = some r := by rw [if_neg (show ¬ (false = true) by decide)] at H; exact H
                    clear H
                    have H := H1
                    clear H1
                    obtain rfl := Option.some.inj H
                    have hcz73_0 : wc.cell? ⟨gb141, 0, none⟩ = some (.int .i64 a0_0) := (blk_cell BK141.out 0).trans rfl
                    have hcz73_1 : wc.cell? ⟨gb141, 1, none⟩ = some (.int .i64 a0_1) := (blk_cell BK141.out 1).trans rfl
                    have hcz73_2 : wc.cell? ⟨gb141, 2, none⟩ = some (.string a0_2) := (blk_cell BK141.out 2).trans rfl
                    have hcz73_3 : wc.cell? ⟨gb141, 3, none⟩ = some (.slice A0_3 l0_3.length c0_3) := (blk_cell BK141.out 3).trans rfl
                    have hcz73_4 : wc.cell? ⟨gb141, 4, none⟩ = some (.slice A0_4 l0_4.length c0_4) := (blk_cell BK141.out 4).trans rfl
                    have hfz73_0 := blk_frozen BK141.out 0
                    have hfz73_1 := blk_frozen BK141.out 1
                    have hfz73_2 := blk_frozen BK141.out 2
                    have hfz73_3 := blk_frozen BK141.out 3
                    have hfz73_4 := blk_frozen BK141.out 4
                    go_wp2_with (first | (go_at_call 50; (with_reducible refine (doorkeeperref1_Name.calls kj1 a0_2 false _ A68.out).mono ?_); rintro e w' ⟨rfl, ⟨nd, rfl⟩⟩; (try first | exact ⟨rfl, _, World.drewN_drewN _ _ _⟩ | exact ⟨rfl, _, Eq.trans (World.drewN_drewN _ _ _) (congrArg (World.drewN _) (Nat.add_assoc _ _ _))⟩)))
                    repeat (go_quiet (first | (go_at_call 50; (with_reducible refine (doorkeeperref1_Name.calls kj1 a0_2 false _ A68.out).mono ?_); rintro e w' ⟨rfl, ⟨nd, rfl⟩⟩; (try first | exact ⟨rfl, _, World.drewN_drewN _ _ _⟩ | exact ⟨rfl, _, Eq.trans (World.drewN_drewN _ _ _) (congrArg (World.drewN _) (Nat.add_assoc _ _ _))⟩))); try go_wp2_with (first | (go_at_call 50; (with_reducible refine (doorkeeperref1_Name.calls kj1 a0_2 false _ A68.out).mono ?_); rintro e w' ⟨rfl, ⟨nd, rfl⟩⟩; (try first | exact ⟨rfl, _, World.drewN_drewN _ _ _⟩ | exact ⟨rfl, _, Eq.trans (World.drewN_drewN _ _ _) (congrArg (World.drewN _) (Nat.add_assoc _ _ _))⟩))))
                    go_ret
                    exact ⟨by first | rfl | (simp [errW_none, errW_some] <;> rfl) | (simp [*, errW_none, errW_some] <;> rfl), by repeat (first | (with_reducible first | exact HB.out | apply below_alloc | apply pw_below_drewN | apply below_drew1 | refine below_set ?_ GE141.out) | exact HB.out)⟩
                · rw [if_neg c67] at H
                  have c67b0 : (a0_0 == 5) = false := beq_eq_false_iff_ne.mpr c67
                  have c67b1 : (a0_0 != 5) = true := bne_iff_ne.mpr c67
                  obtain rfl := Option.some.inj H
                  have hcz74_0 : wc.cell? ⟨gb141, 0, none⟩ = some (.int .i64 a0_0) := (blk_cell BK141.out 0).trans rfl
                  have hcz74_1 : wc.cell? ⟨gb141, 1, none⟩ = some (.int .i64 a0_1) := (blk_cell BK141.out 1).trans rfl
                  have hcz74_2 : wc.cell? ⟨gb141, 2, none⟩ = some (.string a0_2) := (blk_cell BK141.out 2).trans rfl
                  have hcz74_3 : wc.cell? ⟨gb141, 3, none⟩ = some (.slice A0_3 l0_3.length c0_3) := (blk_cell BK141.out 3).trans rfl
                  have hcz74_4 : wc.cell? ⟨gb141, 4, none⟩ = some (.slice A0_4 l0_4.length c0_4) := (blk_cell BK141.out 4).trans rfl
                  have hfz74_0 := blk_frozen BK141.out 0
                  have hfz74_1 := blk_frozen BK141.out 1
                  have hfz74_2 := blk_frozen BK141.out 2
                  have hfz74_3 := blk_frozen BK141.out 3
                  have hfz74_4 := blk_frozen BK141.out 4
                  go_wp2
                  repeat (go_quiet (fail); try go_wp2)
                  go_ret
                  exact ⟨by first | rfl | (simp [errW_none, errW_some] <;> rfl) | (simp [*, errW_none, errW_some] <;> rfl), by repeat (first | (with_reducible first | exact HB.out | apply below_alloc | apply pw_below_drewN | apply below_drew1 | refine below_set ?_ GE141.out) | exact HB.out)⟩

end Go.Proofs.Ytbmjdkbakeckoaa.PRefsAll
