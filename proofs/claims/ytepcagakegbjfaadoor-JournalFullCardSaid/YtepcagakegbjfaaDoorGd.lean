/- Walks of package journal: Save, where the gate refuses, and where there is room. -/
import Derived.Test.YtepcagakegbjfaaDoorProg
import Derived.Below
import Derived.Deep.Draws
import Derived.Deep.AppendLies
import Derived.Maps.AppendAt
import Derived.OwnWalk
import Derived.Laws.BytesArg
import Derived.Laws.MakeOwn
import Derived.Laws.OwnMore
import Derived.Deep.OwnRows
import Derived.Tactics
import Derived.Lib.ConvBytes
import Derived.Laws.Slices
import Derived.WalkKit
import Derived.KernelRfl
import Derived.RowKit3
import Derived.Deep.LoopGhost
import Derived.Deep.QuietTactic
import Derived.BigQuiet
import Derived.WideLaws
import Derived.Deep.DeepCutAuto
import Derived.Deep.CutBlock
import Derived.Deep.RegionHeld3
import Derived.Laws.Rows
import Derived.Lib.AppendStr
import Derived.ArgAppend
import Derived.Laws.IdiomCopy
import Derived.OrdersHeld
import Derived.Laws.BitsLemmas
import Derived.RowKit
import Derived.Test.YtepcagakegbjfaaDoorWWords
import Derived.Test.YtepcagakegbjfaaDoorWLast
import Derived.Test.YtepcagakegbjfaaDoorWTab
import Derived.Test.YtepcagakegbjfaaDoorWFour
import Derived.Test.YtepcagakegbjfaaDoorWQPut
import Derived.Test.YtepcagakegbjfaaDoorWApart
import Derived.Test.YtepcagakegbjfaaDoorWArr
import Derived.Test.YtepcagakegbjfaaDoorWZeros
import Derived.Test.YtepcagakegbjfaaDoorWFoot
import Derived.Test.YtepcagakegbjfaaDoorWKept
import Derived.Test.YtepcagakegbjfaaDoorWShare
import Derived.Test.YtepcagakegbjfaaDoorWN
import Derived.Test.YtepcagakegbjfaaDoorWFootNe
import Derived.Test.YtepcagakegbjfaaDoorWAt
import Derived.Test.YtepcagakegbjfaaDoorWEqStruct
import Derived.Test.YtepcagakegbjfaaDoorWRepsOne
import Derived.Test.YtepcagakegbjfaaDoorWInv
import Derived.Test.YtepcagakegbjfaaDoorWInvWords
import Derived.Test.YtepcagakegbjfaaDoorWGuard
import Derived.Test.YtepcagakegbjfaaDoorWNEv
import Derived.Test.YtepcagakegbjfaaDoorWMore
import Derived.Test.YtepcagakegbjfaaDoorGc
-- Contracts that print.sh printed for this seat (parts of its texts x0, x3 and x4); Digits, Line and lines for numbers that are not negative.
namespace Go.Proofs.YtepcagakegbjfaaDoor.PJournalHas
open Go.RowKit Go.Proofs.YtepcagakegbjfaaDoorW.PrintWords Go.Proofs.YtepcagakegbjfaaDoorW.PrintLast Go.Proofs.YtepcagakegbjfaaDoorW.PrintMore
attribute [local go_sem] max2_int min2_int max_two min_two max_three min_three max_four min_four   -- for this text's walks alone
set_option linter.unusedVariables false
set_option linter.unusedSimpArgs false



def errW : Option Int → Value
  | none => .nilIface
  | some c => .iface 97 (.int .i64 c)
theorem errW_none : errW none = .nilIface := rfl
theorem errW_some (c : Int) : errW (some c) = .iface 97 (.int .i64 c) := rfl

theorem info5 : (Tryd.prog.info? 5).map (fun i => (i.zero, i.size, i.bytes)) = some (some (.int .u8 0), 1, 1) := by kernel_rfl
theorem info9 : (Tryd.prog.info? 9).map (fun i => (i.zero, i.size, i.bytes)) = some (some (.string ⟨#[]⟩), 1, 16) := by kernel_rfl
-- the values' own types

/-! ### doorkeeperlaw1_Num: function 13 -/
def doorkeeperlaw1_Num.f (a0 : Int) : Option (Int) := some a0
set_option maxHeartbeats 8000000 in
set_option maxRecDepth 100000 in
theorem doorkeeperlaw1_Num.calls (a0 : Int) (r : Int) (w : World) (h : doorkeeperlaw1_Num.f a0 = some r) :
    Calls Tryd.prog 13 #[.int .i64 a0] w fun e w' => e = .returned (.int .i64 r) ∧ Drawn0 w w' := by
  have H : (some a0) = some r := h
  clear h
  obtain rfl := Option.some.inj H
  go_enter Tryd.func13, Tryd.ntmps13
  go_wp2
  go_ret
  exact ⟨by first | rfl | (simp; done) | (simp [*]; done), by repeat (first | exact Drawn0.refl _ | apply Drawn0.step)⟩

/-! ### doorkeeperref1_Digits: function 27 -/
mutual
def doorkeeperref1_Digits.j0 : Nat → Int → Int → ByteArray → Option (ByteArray)
  | 0, _, _, _ => none
  | k + 1, x0, x3, x4 => doorkeeperref1_Digits.l0 k x0 x3 x4
def doorkeeperref1_Digits.l0 : Nat → Int → Int → ByteArray → Option (ByteArray)
  | 0, _, _, _ => none
  | k + 1, x0, x3, x4 => if x3 ≥ 10 then ((some (([(IntKind.u64.wrap (48 + (Int.tmod x3 10))) % 256] : List Int) : List Int)).bind fun y139 => (if (strOfNums y139).size + x4.size ≤ 9223372036854775807 then (doorkeeperref1_Digits.l0 k x0 (IntKind.u64.wrap (Int.tdiv x3 10)) ((strOfNums y139) ++ x4)) else (none))) else ((some (([(IntKind.u64.wrap (48 + x3)) % 256] : List Int) : List Int)).bind fun y142 => (if (strOfNums y142).size + x4.size ≤ 9223372036854775807 then (if x0 < 0 then (if 1 + ((strOfNums y142) ++ x4).size ≤ 9223372036854775807 then (some ((⟨#[45]⟩ : ByteArray) ++ ((strOfNums y142) ++ x4))) else (none)) else (some ((strOfNums y142) ++ x4))) else (none)))
end
def doorkeeperref1_Digits.f (k : Nat) (a0 : Int) : Option (ByteArray) := if a0 < 0 then (doorkeeperref1_Digits.j0 k a0 (IntKind.u64.wrap (-(IntKind.u64.wrap (a0)))) (⟨#[]⟩ : ByteArray)) else (doorkeeperref1_Digits.j0 k a0 (IntKind.u64.wrap (a0)) (⟨#[]⟩ : ByteArray))
theorem doorkeeperref1_Digits.mono_l : ∀ k, (∀ y0 y1 y2, LeO (doorkeeperref1_Digits.j0 k y0 y1 y2) (doorkeeperref1_Digits.j0 (k + 1) y0 y1 y2)) ∧ (∀ y0 y1 y2, LeO (doorkeeperref1_Digits.l0 k y0 y1 y2) (doorkeeperref1_Digits.l0 (k + 1) y0 y1 y2))
  | 0 => ⟨fun _ _ _ r h => by simp [doorkeeperref1_Digits.j0] at h, fun _ _ _ r h => by simp [doorkeeperref1_Digits.l0] at h⟩
  | k + 1 => by
    obtain ⟨ih0, ih1⟩ := doorkeeperref1_Digits.mono_l k
    refine ⟨?_, ?_⟩
    · intro y0 y1 y2
      unfold doorkeeperref1_Digits.j0
      repeat' first
      | (with_reducible exact ih0 _ _ _)
      | (with_reducible exact ih1 _ _ _)
      | (with_reducible exact LeO.refl _)
      | (with_reducible exact LeO.none _)
      | (with_reducible refine LeO.ite ?_ ?_)
      | (with_reducible refine LeO.bind ?_ (fun _ => ?_))
      | exact ih0 _ _ _
      | exact ih1 _ _ _
      | exact LeO.none _
      | refine LeO.ite ?_ ?_
      | refine LeO.bind ?_ (fun _ => ?_)
    · intro y0 y1 y2
      unfold doorkeeperref1_Digits.l0
      repeat' first
      | (with_reducible exact ih0 _ _ _)
      | (with_reducible exact ih1 _ _ _)
      | (with_reducible exact LeO.refl _)
      | (with_reducible exact LeO.none _)
      | (with_reducible refine LeO.ite ?_ ?_)
      | (with_reducible refine LeO.bind ?_ (fun _ => ?_))
      | exact ih0 _ _ _
      | exact ih1 _ _ _
      | exact LeO.none _
      | refine LeO.ite ?_ ?_
      | refine LeO.bind ?_ (fun _ => ?_)
theorem doorkeeperref1_Digits.mono : ∀ a0 k, LeO (doorkeeperref1_Digits.f k a0) (doorkeeperref1_Digits.f (k + 1) a0) := by
  intro a0 k
  obtain ⟨ih0, ih1⟩ := doorkeeperref1_Digits.mono_l k
  unfold doorkeeperref1_Digits.f
  repeat' first
      | (with_reducible exact ih0 _ _ _)
      | (with_reducible exact ih1 _ _ _)
      | (with_reducible exact LeO.refl _)
      | (with_reducible exact LeO.none _)
      | (with_reducible refine LeO.ite ?_ ?_)
      | (with_reducible refine LeO.bind ?_ (fun _ => ?_))
      | exact ih0 _ _ _
      | exact ih1 _ _ _
      | exact LeO.none _
      | refine LeO.ite ?_ ?_
      | refine LeO.bind ?_ (fun _ => ?_)
set_option maxHeartbeats 8000000 in
set_option maxRecDepth 100000 in
theorem doorkeeperref1_Digits.calls (k : Nat) (a0 : Int) (r : ByteArray) (w : World) (hn : Aside0 (0 ≤ a0)) (h : doorkeeperref1_Digits.f k a0 = some r) :
    Calls Tryd.prog 27 #[.int .i64 a0] w fun e w' => e = .returned (.string r) ∧ Below w.heap.size w w' := by
  have HB := Aside0.mk (Below.refl w.heap.size w)
  have H : (if a0 < 0 then (doorkeeperref1_Digits.j0 k a0 (IntKind.u64.wrap (-(IntKind.u64.wrap (a0)))) (⟨#[]⟩ : ByteArray)) else (doorkeeperref1_Digits.j0 k a0 (IntKind.u64.wrap (a0)) (⟨#[]⟩ : ByteArray))) = some r := h
  clear h
  have HC2 := Aside0.mk H
  clear H
  go_enter Tryd.func27, Tryd.ntmps27
  go_upto_if 8 with (fail)
  go_cut [3] (fun v3 wc => ∃ (kq : Nat) (x3_1 : Int), v3 = .int .u64 x3_1 ∧ Aside0 (doorkeeperref1_Digits.j0 kq a0 x3_1 (⟨#[]⟩ : ByteArray) = some r) ∧ Aside0 (kq ≤ k) ∧ Aside0 (Below w.heap.size w wc))
  case first =>
    have H := HC2.out
    clear HC2
    by_cases c3 : a0 < 0
    · rw [if_pos c3] at H
      have c3b0 : decide (a0 < 0) = true := decide_eq_true c3
      clear c3
      (first | rw [c3b0] | (simp only [i64_w, i32_w]; rw [c3b0]) | skip)
      have H' := Aside0.mk H
      clear H
      go_wp2
      go_meet
      case rel => exact ⟨_, (IntKind.u64.wrap (-(IntKind.u64.wrap (a0)))), (by first | rfl | (simp; done) | (simp [*]; done)), H', ⟨by first | omega | exact Nat.le_refl _⟩, ⟨by repeat (first | (with_reducible first | exact HB.out | apply below_alloc | apply pw_below_drewN | apply below_drew1) | exact HB.out)⟩⟩
    · rw [if_neg c3] at H
      have c3b0 : decide (a0 < 0) = false := decide_eq_false c3
      clear c3
      (first | rw [c3b0] | (simp only [i64_w, i32_w]; rw [c3b0]) | skip)
      have H' := Aside0.mk H
      clear H
      go_wp2
      go_meet
      case rel => exact ⟨_, (IntKind.u64.wrap (a0)), (by first | rfl | (simp; done) | (simp [*]; done)), H', ⟨by first | omega | exact Nat.le_refl _⟩, ⟨by repeat (first | (with_reducible first | exact HB.out | apply below_alloc | apply pw_below_drewN | apply below_drew1) | exact HB.out)⟩⟩
  case rest =>
    clear HC2
    try clear c2
    try clear p2
    try clear c3
    try clear c3b0
    obtain ⟨kq, x3_1, rfl, HA, HJ1, HB⟩ := hcut
    cases kq with
    | zero => exact absurd HA.out (by simp [doorkeeperref1_Digits.j0])
    | succ kj1 =>
      have H := HA.out
      clear HA
      simp only [doorkeeperref1_Digits.j0] at H
      have H' := Aside0.mk H
      clear H
      go_wp2
      go_loopg [3, 4] kj1 (fun kq v3 v4 w' => ∃ (x3_2 : Int) (x4_2 : ByteArray), v3 = .int .u64 x3_2 ∧ v4 = .string x4_2 ∧ Aside0 (doorkeeperref1_Digits.l0 kq a0 x3_2 x4_2 = some r) ∧ Aside0 (kq ≤ kj1) ∧ Aside0 (Below w.heap.size w w'))
      case atStart => exact ⟨(x3_1), ((⟨#[]⟩ : ByteArray)), (by first | rfl | (simp; done) | (simp [*]; done)), (by first | rfl | (simp; done) | (simp [*]; done)), H', ⟨Nat.le_refl _⟩, ⟨by repeat (first | (with_reducible first | exact HB.out | apply below_alloc | apply pw_below_drewN | apply below_drew1) | exact HB.out)⟩⟩
      case round =>
        clear H'
        try clear c2
        try clear p2
        try clear c3
        try clear c3b0
        try clear p2
        obtain ⟨x3_2, x4_2, rfl, rfl, HA, HK2, HB⟩ := hrel
        cases gk with
        | zero => exact absurd HA.out (by simp [doorkeeperref1_Digits.l0])
        | succ k2 =>
          have H := HA.out
          clear HA
          simp only [doorkeeperref1_Digits.l0] at H
          by_cases c4 : x3_2 ≥ 10
          · rw [if_pos c4] at H
            have c4b0 : decide (10 ≤ x3_2) = true := decide_eq_true c4
            clear c4
            obtain ⟨y139, hy139⟩ : ∃ y_ : List Int, y_ = (([(IntKind.u64.wrap (48 + (Int.tmod x3_2 10))) % 256] : List Int)) := ⟨_, rfl⟩
            replace H : (if (strOfNums y139).size + x4_2.size ≤ 9223372036854775807 then (doorkeeperref1_Digits.l0 k2 a0 (IntKind.u64.wrap (Int.tdiv x3_2 10)) ((strOfNums y139) ++ x4_2)) else (none)) = some r := by first | (rw [hy139]; with_reducible exact H) | (have H2_ := (Option.bind_some _ _).symm.trans H; rw [hy139]; with_reducible exact H2_) | (have H2_ := (Option.bind_some _ _).symm.trans H; with_reducible exact H2_) | with_reducible exact H | (rw [hy139]; exact H) | exact H
            have Ny139 := Aside0.mk hy139
            clear hy139
            by_cases c5 : (strOfNums y139).size + x4_2.size ≤ 9223372036854775807
            · rw [if_pos c5] at H
              have c5b0 := eq_true c5
              have c5b1 : decide ((strOfNums y139).size + x4_2.size ≤ 9223372036854775807) = true := decide_eq_true c5
              try have c5b2 : (9223372036854775807 < (strOfNums y139).size + x4_2.size) = False := eq_false (Nat.not_lt.2 c5)
              have H' := Aside0.mk H
              clear H
              go_wp2_with (first | ((with_reducible refine gate_dst (N := 17) rfl ?_); refine Kd.R_lit (Kd.int .u8) _ 5 ?hg (N := 17) ?hd (xs := ([(IntKind.u64.wrap (48 + (Int.tmod x3_2 10))) % 256] : List Int)) (inner := [.int .u8 ((IntKind.u64.wrap (48 + (Int.tmod x3_2 10))) % 256)]) (ok := fun _ => True) (okp := fun _ => True) ?hr ?hp (fun _ hk => hk) trivial (Below.refl _ _) (Nat.le_refl _) (by simp) ?_; (case hd => rfl); (case hg => rfl); (case hr => first | (go_simp; done) | (go_simp; rfl)); (case hp => exact (Reps.one (show Kd.M (Kd.int .u8) _ _ _ ((IntKind.u64.wrap (48 + (Int.tmod x3_2 10))) % 256) [.int .u8 ((IntKind.u64.wrap (48 + (Int.tmod x3_2 10))) % 256)] from rfl) (Reps.none _ _))); intro v140 w6 ho7 hb hg_ hnew_; clear hg_ hnew_; (first | rw [← Ny139.out] at ho7 | (simp only [Int.reduceToNat] at ho7; rw [← Ny139.out] at ho7)); have n0_ := Aside0.mk (Kd.R_lower ho7 (below_size (by repeat (first | (with_reducible first | exact HB.out | apply below_alloc | apply pw_below_drewN | apply below_drew1) | exact HB.out)))); have n1_ := Aside0.mk (below_step (by repeat (first | (with_reducible first | exact HB.out | apply below_alloc | apply pw_below_drewN | apply below_drew1) | exact HB.out)) hb); clear HB; have HO141 := n0_; have HB := n1_; clear n0_ n1_; clear hb ho7; have hcv8 := own_string (P := Tryd.prog) Tryd.underlying35 Tryd.underlying5 Tryd.underlying9 (Kd.own_of_R HO141.out)))
              go_roundg k2
              case measure => have := HJ1.out; have := HK2.out; omega
              case rel => exact ⟨(IntKind.u64.wrap (Int.tdiv x3_2 10)), ((strOfNums y139) ++ x4_2), (by first | rfl | (simp; done) | (simp [*]; done)), (by first | rfl | (simp; done) | (simp [*]; done)), H', ⟨by have := HJ1.out; have := HK2.out; omega⟩, ⟨by repeat (first | (with_reducible first | exact HB.out | apply below_alloc | apply pw_below_drewN | apply below_drew1) | exact HB.out)⟩⟩
            · rw [if_neg c5] at H
              exact absurd H (by simp)
          · rw [if_neg c4] at H
            have c4b0 : decide (10 ≤ x3_2) = false := decide_eq_false c4
            clear c4
            obtain ⟨y142, hy142⟩ : ∃ y_ : List Int, y_ = (([(IntKind.u64.wrap (48 + x3_2)) % 256] : List Int)) := ⟨_, rfl⟩
            replace H : (if (strOfNums y142).size + x4_2.size ≤ 9223372036854775807 then (if a0 < 0 then (if 1 + ((strOfNums y142) ++ x4_2).size ≤ 9223372036854775807 then (some ((⟨#[45]⟩ : ByteArray) ++ ((strOfNums y142) ++ x4_2))) else (none)) else (some ((strOfNums y142) ++ x4_2))) else (none)) = some r := by first | (rw [hy142]; with_reducible exact H) | (have H2_ := (Option.bind_some _ _).symm.trans H; rw [hy142]; with_reducible exact H2_) | (have H2_ := (Option.bind_some _ _).symm.trans H; with_reducible exact H2_) | with_reducible exact H | (rw [hy142]; exact H) | exact H
            have Ny142 := Aside0.mk hy142
            clear hy142
            by_cases c9 : (strOfNums y142).size + x4_2.size ≤ 9223372036854775807
            · rw [if_pos c9] at H
              have c9b0 := eq_true c9
              have c9b1 : decide ((strOfNums y142).size + x4_2.size ≤ 9223372036854775807) = true := decide_eq_true c9
              try have c9b2 : (9223372036854775807 < (strOfNums y142).size + x4_2.size) = False := eq_false (Nat.not_lt.2 c9)
              by_cases c10 : a0 < 0
              · exact absurd c10 (by have := hn.out; omega)
              · rw [if_neg c10] at H
                have c10b0 : decide (a0 < 0) = false := decide_eq_false c10
                clear c10
                obtain rfl := Option.some.inj H
                go_wp2_with (first | ((with_reducible refine gate_dst (N := 26) rfl ?_); refine Kd.R_lit (Kd.int .u8) _ 5 ?hg (N := 26) ?hd (xs := ([(IntKind.u64.wrap (48 + x3_2)) % 256] : List Int)) (inner := [.int .u8 ((IntKind.u64.wrap (48 + x3_2)) % 256)]) (ok := fun _ => True) (okp := fun _ => True) ?hr ?hp (fun _ hk => hk) trivial (Below.refl _ _) (Nat.le_refl _) (by simp) ?_; (case hd => rfl); (case hg => rfl); (case hr => first | (go_simp; done) | (go_simp; rfl)); (case hp => exact (Reps.one (show Kd.M (Kd.int .u8) _ _ _ ((IntKind.u64.wrap (48 + x3_2)) % 256) [.int .u8 ((IntKind.u64.wrap (48 + x3_2)) % 256)] from rfl) (Reps.none _ _))); intro v143 w15 ho16 hb hg_ hnew_; clear hg_ hnew_; (first | rw [← Ny142.out] at ho16 | (simp only [Int.reduceToNat] at ho16; rw [← Ny142.out] at ho16)); have n0_ := Aside0.mk (Kd.R_lower ho16 (below_size (by repeat (first | (with_reducible first | exact HB.out | apply below_alloc | apply pw_below_drewN | apply below_drew1) | exact HB.out)))); have n1_ := Aside0.mk (below_step (by repeat (first | (with_reducible first | exact HB.out | apply below_alloc | apply pw_below_drewN | apply below_drew1) | exact HB.out)) hb); clear HB; have HO144 := n0_; have HB := n1_; clear n0_ n1_; clear hb ho16; have hcv17 := own_string (P := Tryd.prog) Tryd.underlying35 Tryd.underlying5 Tryd.underlying9 (Kd.own_of_R HO144.out)))
                go_ret
                exact ⟨by first | rfl | (simp [errW_none, errW_some] <;> rfl) | (simp [*, errW_none, errW_some] <;> rfl), by repeat (first | (with_reducible first | exact HB.out | apply below_alloc | apply pw_below_drewN | apply below_drew1) | exact HB.out)⟩
            · rw [if_neg c9] at H
              exact absurd H (by simp)

/-! ### doorkeeperlaw22_Line: function 16 -/
def doorkeeperlaw22_Line.l0 : Nat → Int → ByteArray → Int → Option (ByteArray)
  | 0, _, _, _ => none
  | k + 1, x0, x3, x4 => if x4 < (Int.tmod (wrap64 (x0)) 30) then ((some (([(wrap64 (32 + (Int.tmod (wrap64 ((wrap64 (x0)) + x4)) 200))) % 256] : List Int) : List Int)).bind fun y146 => (if x3.size + (strOfNums y146).size ≤ 9223372036854775807 then (doorkeeperlaw22_Line.l0 k x0 (x3 ++ (strOfNums y146)) (wrap64 (x4 + 1))) else (none))) else (some x3)
def doorkeeperlaw22_Line.f (k : Nat) (a0 : Int) : Option (ByteArray) := (doorkeeperref1_Digits.f k (wrap64 (a0))).bind fun t145 => (if 5 + t145.size ≤ 9223372036854775807 then (doorkeeperlaw22_Line.l0 k a0 ((⟨#[108, 105, 110, 101, 32]⟩ : ByteArray) ++ t145) 0) else (none))
theorem doorkeeperlaw22_Line.mono_l : ∀ k, (∀ y0 y1 y2, LeO (doorkeeperlaw22_Line.l0 k y0 y1 y2) (doorkeeperlaw22_Line.l0 (k + 1) y0 y1 y2))
  | 0 => fun _ _ _ r h => by simp [doorkeeperlaw22_Line.l0] at h
  | k + 1 => by
    have ih0 := doorkeeperlaw22_Line.mono_l k
    · intro y0 y1 y2
      unfold doorkeeperlaw22_Line.l0
      repeat' first
      | (with_reducible exact ih0 _ _ _)
      | (with_reducible exact doorkeeperref1_Digits.mono _ _)
      | (with_reducible exact LeO.refl _)
      | (with_reducible exact LeO.none _)
      | (with_reducible refine LeO.ite ?_ ?_)
      | (with_reducible refine LeO.bind ?_ (fun _ => ?_))
      | exact ih0 _ _ _
      | exact doorkeeperref1_Digits.mono _ _
      | exact LeO.none _
      | refine LeO.ite ?_ ?_
      | refine LeO.bind ?_ (fun _ => ?_)
theorem doorkeeperlaw22_Line.mono : ∀ a0 k, LeO (doorkeeperlaw22_Line.f k a0) (doorkeeperlaw22_Line.f (k + 1) a0) := by
  intro a0 k
  have ih0 := doorkeeperlaw22_Line.mono_l k
  unfold doorkeeperlaw22_Line.f
  repeat' first
      | (with_reducible exact ih0 _ _ _)
      | (with_reducible exact doorkeeperref1_Digits.mono _ _)
      | (with_reducible exact LeO.refl _)
      | (with_reducible exact LeO.none _)
      | (with_reducible refine LeO.ite ?_ ?_)
      | (with_reducible refine LeO.bind ?_ (fun _ => ?_))
      | exact ih0 _ _ _
      | exact doorkeeperref1_Digits.mono _ _
      | exact LeO.none _
      | refine LeO.ite ?_ ?_
      | refine LeO.bind ?_ (fun _ => ?_)
set_option maxHeartbeats 8000000 in
set_option maxRecDepth 100000 in
theorem doorkeeperlaw22_Line.calls (k : Nat) (a0 : Int) (r : ByteArray) (w : World) (hn : Aside0 (0 ≤ wrap64 a0)) (h : doorkeeperlaw22_Line.f k a0 = some r) :
    Calls Tryd.prog 16 #[.int .u8 a0] w fun e w' => e = .returned (.string r) ∧ Below w.heap.size w w' := by
  have HB := Aside0.mk (Below.refl w.heap.size w)
  have H : ((doorkeeperref1_Digits.f k (wrap64 (a0))).bind fun t145 => (if 5 + t145.size ≤ 9223372036854775807 then (doorkeeperlaw22_Line.l0 k a0 ((⟨#[108, 105, 110, 101, 32]⟩ : ByteArray) ++ t145) 0) else (none))) = some r := h
  clear h
  replace H := Option.bind_eq_some_iff.mp H
  obtain ⟨t145, A20, H⟩ := H
  replace H : (if 5 + t145.size ≤ 9223372036854775807 then (doorkeeperlaw22_Line.l0 k a0 ((⟨#[108, 105, 110, 101, 32]⟩ : ByteArray) ++ t145) 0) else (none)) = some r := H
  have A2 := Aside0.mk A20
  clear A20
  by_cases c3 : 5 + t145.size ≤ 9223372036854775807
  · rw [if_pos c3] at H
    have c3b0 := eq_true c3
    have c3b1 : decide (5 + t145.size ≤ 9223372036854775807) = true := decide_eq_true c3
    try have c3b2 : (9223372036854775807 < 5 + t145.size) = False := eq_false (Nat.not_lt.2 c3)
    have H' := Aside0.mk H
    clear H
    go_enter Tryd.func16, Tryd.ntmps16
    go_wp2_with (first | ((with_reducible refine gate_callee (f := 27) rfl ?_); refine goesL_ (some 7) rfl rfl Tryd.func27 (by kernel_rfl) rfl #[.int .i64 (wrap64 (a0))] rfl (by (try simp only [List.map_toArray, List.map_cons, List.map_nil]); first | done | rfl | (simp only [List.length_drop, List.length_take]; rfl)) ?_; (with_reducible refine (doorkeeperref1_Digits.calls k (wrap64 (a0)) t145 _ hn A2.out).mono ?_); rintro e w4 ⟨rfl, hb⟩; refine ⟨_, rfl, ?_⟩; have n0_ := Aside0.mk (below_step (by repeat (first | (with_reducible first | exact HB.out | apply below_alloc | apply pw_below_drewN | apply below_drew1) | exact HB.out)) hb); clear HB; have HB := n0_; clear n0_; (try clear hb); (try clear hb2); (try clear hk); (try clear hi)))
    go_loopg [3, 4] k (fun kq v3 v4 w' => ∃ (x3_1 : ByteArray) (x4_1 : Int), v3 = .string x3_1 ∧ v4 = .int .i64 x4_1 ∧ Aside0 (doorkeeperlaw22_Line.l0 kq a0 x3_1 x4_1 = some r) ∧ Aside0 (kq ≤ k) ∧ Aside0 (Below w.heap.size w w'))
    case atStart => exact ⟨((⟨#[108, 105, 110, 101, 32]⟩ : ByteArray) ++ t145), (0), (by first | rfl | (simp; done) | (simp [*]; done)), (by first | rfl | (simp; done) | (simp [*]; done)), H', ⟨Nat.le_refl _⟩, ⟨by repeat (first | (with_reducible first | exact HB.out | apply below_alloc | apply pw_below_drewN | apply below_drew1) | exact HB.out)⟩⟩
    case round =>
      clear H'
      try clear c1
      try clear c2
      try clear p2
      try clear c3
      try clear c3b0
      try clear c3b1
      try clear c3b2
      obtain ⟨x3_1, x4_1, rfl, rfl, HA, HK1, HB⟩ := hrel
      cases gk with
      | zero => exact absurd HA.out (by simp [doorkeeperlaw22_Line.l0])
      | succ k1 =>
        have H := HA.out
        clear HA
        simp only [doorkeeperlaw22_Line.l0] at H
        by_cases c5 : x4_1 < (Int.tmod (wrap64 (a0)) 30)
        · rw [if_pos c5] at H
          have c5b0 : decide (x4_1 < (Int.tmod (wrap64 (a0)) 30)) = true := decide_eq_true c5
          clear c5
          obtain ⟨y146, hy146⟩ : ∃ y_ : List Int, y_ = (([(wrap64 (32 + (Int.tmod (wrap64 ((wrap64 (a0)) + x4_1)) 200))) % 256] : List Int)) := ⟨_, rfl⟩
          replace H : (if x3_1.size + (strOfNums y146).size ≤ 9223372036854775807 then (doorkeeperlaw22_Line.l0 k1 a0 (x3_1 ++ (strOfNums y146)) (wrap64 (x4_1 + 1))) else (none)) = some r := by first | (rw [hy146]; with_reducible exact H) | (have H2_ := (Option.bind_some _ _).symm.trans H; rw [hy146]; with_reducible exact H2_) | (have H2_ := (Option.bind_some _ _).symm.trans H; with_reducible exact H2_) | with_reducible exact H | (rw [hy146]; exact H) | exact H
          have Ny146 := Aside0.mk hy146
          clear hy146
          by_cases c6 : x3_1.size + (strOfNums y146).size ≤ 9223372036854775807
          · rw [if_pos c6] at H
            have c6b0 := eq_true c6
            have c6b1 : decide (x3_1.size + (strOfNums y146).size ≤ 9223372036854775807) = true := decide_eq_true c6
            try have c6b2 : (9223372036854775807 < x3_1.size + (strOfNums y146).size) = False := eq_false (Nat.not_lt.2 c6)
            have H' := Aside0.mk H
            clear H
            go_wp2_with (first | ((with_reducible refine gate_dst (N := 24) rfl ?_); refine Kd.R_lit (Kd.int .u8) _ 5 ?hg (N := 24) ?hd (xs := ([(wrap64 (32 + (Int.tmod (wrap64 ((wrap64 (a0)) + x4_1)) 200))) % 256] : List Int)) (inner := [.int .u8 ((wrap64 (32 + (Int.tmod (wrap64 ((wrap64 (a0)) + x4_1)) 200))) % 256)]) (ok := fun _ => True) (okp := fun _ => True) ?hr ?hp (fun _ hk => hk) trivial (Below.refl _ _) (Nat.le_refl _) (by simp) ?_; (case hd => rfl); (case hg => rfl); (case hr => first | (go_simp; done) | (go_simp; rfl)); (case hp => exact (Reps.one (show Kd.M (Kd.int .u8) _ _ _ ((wrap64 (32 + (Int.tmod (wrap64 ((wrap64 (a0)) + x4_1)) 200))) % 256) [.int .u8 ((wrap64 (32 + (Int.tmod (wrap64 ((wrap64 (a0)) + x4_1)) 200))) % 256)] from rfl) (Reps.none _ _))); intro v147 w7 ho8 hb hg_ hnew_; clear hg_ hnew_; (first | rw [← Ny146.out] at ho8 | (simp only [Int.reduceToNat] at ho8; rw [← Ny146.out] at ho8)); have n0_ := Aside0.mk (Kd.R_lower ho8 (below_size (by repeat (first | (with_reducible first | exact HB.out | apply below_alloc | apply pw_below_drewN | apply below_drew1) | exact HB.out)))); have n1_ := Aside0.mk (below_step (by repeat (first | (with_reducible first | exact HB.out | apply below_alloc | apply pw_below_drewN | apply below_drew1) | exact HB.out)) hb); clear HB; have HO148 := n0_; have HB := n1_; clear n0_ n1_; clear hb ho8; have hcv9 := own_string (P := Tryd.prog) Tryd.underlying35 Tryd.underlying5 Tryd.underlying9 (Kd.own_of_R HO148.out)))
            go_roundg k1
            case measure => have := HK1.out; omega
            case rel => exact ⟨(x3_1 ++ (strOfNums y146)), (wrap64 (x4_1 + 1)), (by first | rfl | (simp; done) | (simp [*]; done)), (by first | rfl | (simp; done) | (simp [*]; done)), H', ⟨by have := HK1.out; omega⟩, ⟨by repeat (first | (with_reducible first | exact HB.out | apply below_alloc | apply pw_below_drewN | apply below_drew1) | exact HB.out)⟩⟩
          · rw [if_neg c6] at H
            exact absurd H (by simp)
        · rw [if_neg c5] at H
          have c5b0 : decide (x4_1 < (Int.tmod (wrap64 (a0)) 30)) = false := decide_eq_false c5
          clear c5
          obtain rfl := Option.some.inj H
          go_wp2
          go_ret
          exact ⟨by first | rfl | (simp [errW_none, errW_some] <;> rfl) | (simp [*, errW_none, errW_some] <;> rfl), by repeat (first | (with_reducible first | exact HB.out | apply below_alloc | apply pw_below_drewN | apply below_drew1) | exact HB.out)⟩
  · rw [if_neg c3] at H
    exact absurd H (by simp)

/-! ### doorkeeperlaw22_lines: function 14 -/
def doorkeeperlaw22_lines.l0 : Nat → List Int → List ByteArray → Int → Option (List ByteArray)
  | 0, _, _, _ => none
  | k + 1, x0, x3, x4 => if x4 < (x0.length : Int) then (if 0 ≤ x4 then ((doorkeeperlaw22_Line.f k (rd x0 x4)).bind fun t150 => (if x3.length < 8796093022208 then (doorkeeperlaw22_lines.l0 k x0 (x3 ++ [t150]) (wrap64 (x4 + 1))) else (none))) else (none)) else (some x3)
def doorkeeperlaw22_lines.f (k : Nat) (l0 : List Int) : Option (List ByteArray) := doorkeeperlaw22_lines.l0 k l0 ([] : List ByteArray) 0
theorem doorkeeperlaw22_lines.mono_l : ∀ k, (∀ y0 y1 y2, LeO (doorkeeperlaw22_lines.l0 k y0 y1 y2) (doorkeeperlaw22_lines.l0 (k + 1) y0 y1 y2))
  | 0 => fun _ _ _ r h => by simp [doorkeeperlaw22_lines.l0] at h
  | k + 1 => by
    have ih0 := doorkeeperlaw22_lines.mono_l k
    · intro y0 y1 y2
      unfold doorkeeperlaw22_lines.l0
      repeat' first
      | (with_reducible exact ih0 _ _ _)
      | (with_reducible exact doorkeeperlaw22_Line.mono _ _)
      | (with_reducible exact LeO.refl _)
      | (with_reducible exact LeO.none _)
      | (with_reducible refine LeO.ite ?_ ?_)
      | (with_reducible refine LeO.bind ?_ (fun _ => ?_))
      | exact ih0 _ _ _
      | exact doorkeeperlaw22_Line.mono _ _
      | exact LeO.none _
      | refine LeO.ite ?_ ?_
      | refine LeO.bind ?_ (fun _ => ?_)
theorem doorkeeperlaw22_lines.mono : ∀ a0 k, LeO (doorkeeperlaw22_lines.f k a0) (doorkeeperlaw22_lines.f (k + 1) a0) := by
  intro a0 k
  have ih0 := doorkeeperlaw22_lines.mono_l k
  unfold doorkeeperlaw22_lines.f
  repeat' first
      | (with_reducible exact ih0 _ _ _)
      | (with_reducible exact doorkeeperlaw22_Line.mono _ _)
      | (with_reducible exact LeO.refl _)
      | (with_reducible exact LeO.none _)
      | (with_reducible refine LeO.ite ?_ ?_)
      | (with_reducible refine LeO.bind ?_ (fun _ => ?_))
      | exact ih0 _ _ _
      | exact doorkeeperlaw22_Line.mono _ _
      | exact LeO.none _
      | refine LeO.ite ?_ ?_
      | refine LeO.bind ?_ (fun _ => ?_)
set_option maxHeartbeats 8000000 in
set_option maxRecDepth 100000 in
theorem doorkeeperlaw22_lines.calls (k : Nat) (A0 : Option Addr) (c0 : Nat) (l0 : List Int) (r : List ByteArray) (w : World) (hr0 : Kd.C (Kd.int .u8) w A0 l0.length l0) (hc0 : l0.length ≤ c0) (hn : Aside0 (∀ i, 0 ≤ wrap64 (rd l0 i))) (h : doorkeeperlaw22_lines.f k l0 = some r) :
    Calls Tryd.prog 14 #[.slice A0 l0.length c0] w fun e w' => ∃ v0_ : Value, e = .returned (v0_) ∧ Kd.R Kd.string 9 w' w.heap.size (fun _ => True) v0_ r ∧ Below w.heap.size w w' := by
  have HR0 := Aside0.mk hr0
  have HC0 := Aside0.mk hc0
  clear hr0 hc0
  have HB := Aside0.mk (Below.refl w.heap.size w)
  have H : (doorkeeperlaw22_lines.l0 k l0 ([] : List ByteArray) 0) = some r := h
  clear h
  have H' := Aside0.mk H
  clear H
  go_enter Tryd.func14, Tryd.ntmps14
  go_wp2
  go_loopg [3, 4] k (fun kq v3 v4 w' => ∃ (x3_1 : List ByteArray) (x4_1 : Int), v4 = .int .i64 x4_1 ∧ Aside0 (doorkeeperlaw22_lines.l0 kq l0 x3_1 x4_1 = some r) ∧ Aside0 (kq ≤ k) ∧ Aside0 (Kd.R Kd.string 9 w' w.heap.size (fun _ => True) v3 x3_1) ∧ Aside0 (Below w.heap.size w w'))
  case atStart => exact ⟨(([] : List ByteArray)), (0), (by first | rfl | (simp; done) | (simp [*]; done)), H', ⟨Nat.le_refl _⟩, ⟨by first | exact Kd.R_nil _ _ _ _ _ | exact Kd.N_nil _ _ _ _ _ | exact Kd.V_nil _ _ _ _ _ | exact Kd.Q_nil _ _ _ _ _ | exact Kd.S_nil _ _ _ _ _⟩, ⟨by repeat (first | (with_reducible first | exact HB.out | apply below_alloc | apply pw_below_drewN | apply below_drew1) | exact HB.out)⟩⟩
  case round =>
    clear H'
    try clear c1
    obtain ⟨x3_1, x4_1, rfl, HA, HK1, HO_3, HB⟩ := hrel
    cases gk with
    | zero => exact absurd HA.out (by simp [doorkeeperlaw22_lines.l0])
    | succ k1 =>
      have H := HA.out
      clear HA
      simp only [doorkeeperlaw22_lines.l0] at H
      by_cases c2 : x4_1 < (l0.length : Int)
      · rw [if_pos c2] at H
        have c2b0 : decide (x4_1 < (l0.length : Int)) = true := decide_eq_true c2
        clear c2
        by_cases c3 : 0 ≤ x4_1
        · rw [if_pos c3] at H
          have c3b0 : decide (0 ≤ x4_1) = true := decide_eq_true c3
          clear c3
          replace H := Option.bind_eq_some_iff.mp H
          obtain ⟨t150, A40, H⟩ := H
          replace H : (if x3_1.length < 8796093022208 then (doorkeeperlaw22_lines.l0 k1 l0 (x3_1 ++ [t150]) (wrap64 (x4_1 + 1))) else (none)) = some r := H
          have A4 := Aside0.mk A40
          clear A40
          by_cases c5 : x3_1.length < 8796093022208
          · rw [if_pos c5] at H
            have LMc5 := Aside0.mk c5
            clear c5
            obtain ⟨y151, hy151⟩ : ∃ y_ : List ByteArray, y_ = (x3_1 ++ [t150]) := ⟨_, rfl⟩
            replace H : (doorkeeperlaw22_lines.l0 k1 l0 y151 (wrap64 (x4_1 + 1))) = some r := by first | (rw [hy151]; with_reducible exact H) | (have H2_ := (Option.bind_some _ _).symm.trans H; rw [hy151]; with_reducible exact H2_) | (have H2_ := (Option.bind_some _ _).symm.trans H; with_reducible exact H2_) | with_reducible exact H | (rw [hy151]; exact H) | exact H
            have Ny151 := Aside0.mk hy151
            clear hy151
            have H' := Aside0.mk H
            clear H
            have p149 : 0 ≤ (x4_1 : Int) := of_decide_eq_true (by first | (with_reducible assumption) | assumption)
            have q149 : x4_1 < (l0.length : Int) := of_decide_eq_true (by first | (with_reducible assumption) | assumption)
            obtain ⟨ad149, e149, hx149_0⟩ := Kd.at_int HR0.out x4_1 p149 q149
            cases e149
            replace hx149_0 := (HB.out.cell (World.block_lt_of_cell? w _ hx149_0)).trans hx149_0
            replace p149 := eq_true p149
            replace q149 := eq_true q149
            go_wp2_with (first | ((with_reducible refine gate_callee (f := 16) rfl ?_); refine goesL_ (some 16) rfl rfl Tryd.func16 (by kernel_rfl) rfl #[.int .u8 (rd l0 x4_1)] rfl (by (try simp only [List.map_toArray, List.map_cons, List.map_nil]); first | done | rfl | (simp only [List.length_drop, List.length_take]; rfl)) ?_; (with_reducible refine (doorkeeperlaw22_Line.calls k1 (rd l0 x4_1) t150 _ ⟨hn.out _⟩ A4.out).mono ?_); rintro e w6 ⟨rfl, hb⟩; refine ⟨_, rfl, ?_⟩; have n0_ := Aside0.mk (Kd.R_below (by (with_reducible repeat (first | apply Kd.R_alloc | apply Kd.R_drewN | apply Kd.R_drew)); exact HO_3.out) hb); have n1_ := Aside0.mk (below_step (by repeat (first | (with_reducible first | exact HB.out | apply below_alloc | apply pw_below_drewN | apply below_drew1) | exact HB.out)) hb); clear HO_3; clear HB; have HO_3 := n0_; have HB := n1_; clear n0_ n1_; (try clear hb); (try clear hb2); (try clear hk); (try clear hi)) | ((with_reducible refine gate_builtin (b := .append) (xs := #[.tmp 11, .tmp 17]) rfl ?_); at_builtin; refine Kd.R_append Kd.string (w0 := w) w.heap.size rfl (.tmp 11) (.tmp 17) 34 9 (.string ⟨#[]⟩) 16 rfl Tryd.underlying34 info9 rfl (by decide) (by omega) u3 x3_1 t150 [.string t150] (fun _ => True) (fun _ => False) rfl rfl ?aP (fun _ hk => hk.elim) ?aF ?aO ?aB ?aS ?aL ?_; (case aP => exact rfl); (case aB => exact (by repeat (first | (with_reducible first | exact HB.out | apply below_alloc | apply pw_below_drewN | apply below_drew1) | exact HB.out))); (case aF => exact (fun _ _ => trivial)); (case aO => exact (by (with_reducible repeat (first | apply Kd.R_alloc | apply Kd.R_drewN | apply Kd.R_drew)); exact HO_3.out)); (case aS => exact (below_size (by repeat (first | (with_reducible first | exact HB.out | apply below_alloc | apply pw_below_drewN | apply below_drew1) | exact HB.out)))); (case aL => have := LMc5.out; omega); intro v152 w7 ho hb hg hat; rw [← Ny151.out] at ho; have n0_ := Aside0.mk (hb); have n1_ := Aside0.mk (ho); clear HB; clear HO_3; have HB := n0_; have HO153 := n1_; clear n0_ n1_; clear ho hb hg hat))
            go_roundg k1
            case measure => have := HK1.out; omega
            case rel => exact ⟨(y151), (wrap64 (x4_1 + 1)), (by first | rfl | (simp; done) | (simp [*]; done)), H', ⟨by have := HK1.out; omega⟩, ⟨by (with_reducible repeat (first | apply Kd.R_alloc | apply Kd.R_drewN | apply Kd.R_drew)); exact HO153.out⟩, ⟨by repeat (first | (with_reducible first | exact HB.out | apply below_alloc | apply pw_below_drewN | apply below_drew1) | exact HB.out)⟩⟩
          · rw [if_neg c5] at H
            exact absurd H (by simp)
        · rw [if_neg c3] at H
          exact absurd H (by simp)
      · rw [if_neg c2] at H
        have c2b0 : decide (x4_1 < (l0.length : Int)) = false := decide_eq_false c2
        clear c2
        obtain rfl := Option.some.inj H
        go_wp2
        go_ret
        exact ⟨_, by first | rfl | (simp [errW_none, errW_some] <;> rfl) | (simp [*, errW_none, errW_some] <;> rfl), by (with_reducible repeat (first | apply Kd.R_alloc | apply Kd.R_drewN | apply Kd.R_drew)); exact HO_3.out, by repeat (first | (with_reducible first | exact HB.out | apply below_alloc | apply pw_below_drewN | apply below_drew1) | exact HB.out)⟩

/-! ### doorkeeperref1_Texts: function 18 -/
def doorkeeperref1_Texts.l0 : Nat → List ByteArray → List ByteArray → Int → Option (Bool)
  | 0, _, _, _ => none
  | k + 1, x0, x1, x5 => if x5 < (x0.length : Int) then (if 0 ≤ x5 then (if x5 < (x1.length : Int) then (if (rdOf ByteArray.empty x0 x5).toList = (rdOf ByteArray.empty x1 x5).toList then (doorkeeperref1_Texts.l0 k x0 x1 (wrap64 (x5 + 1))) else (some false)) else (none)) else (none)) else (some true)
def doorkeeperref1_Texts.f (k : Nat) (l0 : List ByteArray) (l1 : List ByteArray) : Option (Bool) := if (l0.length : Int) = (l1.length : Int) then (doorkeeperref1_Texts.l0 k l0 l1 0) else (some false)
theorem doorkeeperref1_Texts.mono_l : ∀ k, (∀ y0 y1 y2, LeO (doorkeeperref1_Texts.l0 k y0 y1 y2) (doorkeeperref1_Texts.l0 (k + 1) y0 y1 y2))
  | 0 => fun _ _ _ r h => by simp [doorkeeperref1_Texts.l0] at h
  | k + 1 => by
    have ih0 := doorkeeperref1_Texts.mono_l k
    · intro y0 y1 y2
      unfold doorkeeperref1_Texts.l0
      repeat' first
      | (with_reducible exact ih0 _ _ _)
      | (with_reducible exact LeO.refl _)
      | (with_reducible exact LeO.none _)
      | (with_reducible refine LeO.ite ?_ ?_)
      | (with_reducible refine LeO.bind ?_ (fun _ => ?_))
      | exact ih0 _ _ _
      | exact LeO.none _
      | refine LeO.ite ?_ ?_
      | refine LeO.bind ?_ (fun _ => ?_)
theorem doorkeeperref1_Texts.mono : ∀ a0 a1 k, LeO (doorkeeperref1_Texts.f k a0 a1) (doorkeeperref1_Texts.f (k + 1) a0 a1) := by
  intro a0 a1 k
  have ih0 := doorkeeperref1_Texts.mono_l k
  unfold doorkeeperref1_Texts.f
  repeat' first
      | (with_reducible exact ih0 _ _ _)
      | (with_reducible exact LeO.refl _)
      | (with_reducible exact LeO.none _)
      | (with_reducible refine LeO.ite ?_ ?_)
      | (with_reducible refine LeO.bind ?_ (fun _ => ?_))
      | exact ih0 _ _ _
      | exact LeO.none _
      | refine LeO.ite ?_ ?_
      | refine LeO.bind ?_ (fun _ => ?_)
set_option maxHeartbeats 8000000 in
set_option maxRecDepth 100000 in
theorem doorkeeperref1_Texts.calls (k : Nat) (A0 : Option Addr) (c0 : Nat) (l0 : List ByteArray) (A1 : Option Addr) (c1 : Nat) (l1 : List ByteArray) (r : Bool) (w : World) (hr0 : Kd.C Kd.string w A0 l0.length l0) (hc0 : l0.length ≤ c0) (hr1 : Kd.C Kd.string w A1 l1.length l1) (hc1 : l1.length ≤ c1) (h : doorkeeperref1_Texts.f k l0 l1 = some r) :
    Calls Tryd.prog 18 #[.slice A0 l0.length c0, .slice A1 l1.length c1] w fun e w' => e = .returned (.bool r) ∧ Drawn0 w w' := by
  have HR0 := Aside0.mk hr0
  have HC0 := Aside0.mk hc0
  clear hr0 hc0
  have HR1 := Aside0.mk hr1
  have HC1 := Aside0.mk hc1
  clear hr1 hc1
  have H : (if (l0.length : Int) = (l1.length : Int) then (doorkeeperref1_Texts.l0 k l0 l1 0) else (some false)) = some r := h
  clear h
  by_cases c3 : (l0.length : Int) = (l1.length : Int)
  · rw [if_pos c3] at H
    have c3b0 : ((l0.length : Int) == (l1.length : Int)) = true := beq_iff_eq.mpr c3
    have c3b1 : ((l0.length : Int) != (l1.length : Int)) = false := bne_eq_false_iff_eq.mpr c3
    have c3b2 : (l0.length == l1.length) = true := by first | simpa using c3 | (simp at c3 ⊢; omega)
    clear c3
    have H' := Aside0.mk H
    clear H
    go_enter Tryd.func18, Tryd.ntmps18
    go_wp2
    repeat (go_quiet (fail); try go_wp2)
    go_loopg [5] k (fun kq v5 w' => ∃ (x5_1 : Int), v5 = .int .i64 x5_1 ∧ Aside0 (doorkeeperref1_Texts.l0 kq l0 l1 x5_1 = some r) ∧ Aside0 (kq ≤ k) ∧ Drawn0 w w')
    case atStart => exact ⟨(0), (by first | rfl | (simp; done) | (simp [*]; done)), H', ⟨Nat.le_refl _⟩, by repeat (first | exact Drawn0.refl _ | apply Drawn0.step)⟩
    case round =>
      clear H'
      try clear c1
      try clear p2
      try clear c3
      try clear c3b0
      try clear c3b1
      try clear c3b2
      obtain ⟨x5_1, rfl, HA, HK1, ⟨m1, rfl⟩⟩ := hrel
      cases gk with
      | zero => exact absurd HA.out (by simp [doorkeeperref1_Texts.l0])
      | succ k1 =>
        have H := HA.out
        clear HA
        simp only [doorkeeperref1_Texts.l0] at H
        by_cases c4 : x5_1 < (l0.length : Int)
        · rw [if_pos c4] at H
          have c4b0 : decide (x5_1 < (l0.length : Int)) = true := decide_eq_true c4
          clear c4
          by_cases c5 : 0 ≤ x5_1
          · rw [if_pos c5] at H
            have c5b0 : decide (0 ≤ x5_1) = true := decide_eq_true c5
            clear c5
            by_cases c6 : x5_1 < (l1.length : Int)
            · rw [if_pos c6] at H
              have c6b0 : decide (x5_1 < (l1.length : Int)) = true := decide_eq_true c6
              clear c6
              by_cases c7 : (rdOf ByteArray.empty l0 x5_1).toList = (rdOf ByteArray.empty l1 x5_1).toList
              · rw [if_pos c7] at H
                have c7b0 : ((rdOf ByteArray.empty l0 x5_1).toList == (rdOf ByteArray.empty l1 x5_1).toList) = true := beq_iff_eq.mpr c7
                have c7b1 : ((rdOf ByteArray.empty l0 x5_1).toList != (rdOf ByteArray.empty l1 x5_1).toList) = false := bne_eq_false_iff_eq.mpr c7
                clear c7
                have H' := Aside0.mk H
                clear H
                have p154 : 0 ≤ (x5_1 : Int) := of_decide_eq_true (by first | (with_reducible assumption) | assumption)
                have q154 : x5_1 < (l0.length : Int) := of_decide_eq_true (by first | (with_reducible assumption) | assumption)
                obtain ⟨ad154, e154, hx154_0⟩ := Kd.at_string HR0.out x5_1 p154 q154
                cases e154
                replace p154 := eq_true p154
                replace q154 := eq_true q154
                have p155 : 0 ≤ (x5_1 : Int) := of_decide_eq_true (by first | (with_reducible assumption) | assumption)
                have q155 : x5_1 < (l1.length : Int) := of_decide_eq_true (by first | (with_reducible assumption) | assumption)
                obtain ⟨ad155, e155, hx155_0⟩ := Kd.at_string HR1.out x5_1 p155 q155
                cases e155
                replace p155 := eq_true p155
                replace q155 := eq_true q155
                go_wp2
                repeat (go_quiet (fail); try go_wp2)
                go_roundg k1
                case measure => have := HK1.out; omega
                case rel => exact ⟨(wrap64 (x5_1 + 1)), (by first | rfl | (simp; done) | (simp [*]; done)), H', ⟨by have := HK1.out; omega⟩, by repeat (first | exact Drawn0.refl _ | apply Drawn0.step)⟩
              · rw [if_neg c7] at H
                have c7b0 : ((rdOf ByteArray.empty l0 x5_1).toList == (rdOf ByteArray.empty l1 x5_1).toList) = false := beq_eq_false_iff_ne.mpr c7
                have c7b1 : ((rdOf ByteArray.empty l0 x5_1).toList != (rdOf ByteArray.empty l1 x5_1).toList) = true := bne_iff_ne.mpr c7
                obtain rfl := Option.some.inj H
                have p154 : 0 ≤ (x5_1 : Int) := of_decide_eq_true (by first | (with_reducible assumption) | assumption)
                have q154 : x5_1 < (l0.length : Int) := of_decide_eq_true (by first | (with_reducible assumption) | assumption)
                obtain ⟨ad154, e154, hx154_0⟩ := Kd.at_string HR0.out x5_1 p154 q154
                cases e154
                replace p154 := eq_true p154
                replace q154 := eq_true q154
                have p155 : 0 ≤ (x5_1 : Int) := of_decide_eq_true (by first | (with_reducible assumption) | assumption)
                have q155 : x5_1 < (l1.length : Int) := of_decide_eq_true (by first | (with_reducible assumption) | assumption)
                obtain ⟨ad155, e155, hx155_0⟩ := Kd.at_string HR1.out x5_1 p155 q155
                cases e155
                replace p155 := eq_true p155
                replace q155 := eq_true q155
                go_wp2
                repeat (go_quiet (fail); try go_wp2)
                go_ret
                exact ⟨by first | rfl | (simp; done) | (simp [*]; done), by repeat (first | exact Drawn0.refl _ | apply Drawn0.step)⟩
            · rw [if_neg c6] at H
              exact absurd H (by simp)
          · rw [if_neg c5] at H
            exact absurd H (by simp)
        · rw [if_neg c4] at H
          have c4b0 : decide (x5_1 < (l0.length : Int)) = false := decide_eq_false c4
          clear c4
          obtain rfl := Option.some.inj H
          go_wp2
          repeat (go_quiet (fail); try go_wp2)
          go_ret
          exact ⟨by first | rfl | (simp; done) | (simp [*]; done), by repeat (first | exact Drawn0.refl _ | apply Drawn0.step)⟩
  · rw [if_neg c3] at H
    have c3b0 : ((l0.length : Int) == (l1.length : Int)) = false := beq_eq_false_iff_ne.mpr c3
    have c3b1 : ((l0.length : Int) != (l1.length : Int)) = true := bne_iff_ne.mpr c3
    have c3b2 : (l0.length == l1.length) = false := by first | simpa using c3 | (simp at c3 ⊢; omega)
    obtain rfl := Option.some.inj H
    go_enter Tryd.func18, Tryd.ntmps18
    go_wp2
    repeat (go_quiet (fail); try go_wp2)
    go_ret
    exact ⟨by first | rfl | (simp; done) | (simp [*]; done), by repeat (first | exact Drawn0.refl _ | apply Drawn0.step)⟩

end Go.Proofs.YtepcagakegbjfaaDoor.PJournalHas
namespace Go.Proofs.YtepcagakegbjfaaDoor
open Go.RowKit Go.Proofs.YtepcagakegbjfaaDoorW.PrintWords
open Jr (bs lb bs_lb lb_bs bs_app okLine TapeSt addF sealF wipeF)

/-- What the gate tells. -/
def gateB (dead : Bool) (ls : List ByteArray) : Int := if dead then 16 else if (ls.map lb).all okLine then 0 else 1
set_option maxHeartbeats 400000 in
theorem save_gate (bas b tb : Nat) (row : Option Nat) (lv : Value) (st : TapeSt) (side turn : Int) (l : List ByteArray) (dead : Bool) (A : Option Addr) (c : Nat) (ls : List ByteArray) (w : World)
    (hJ : JAt w bas b tb row lv st side turn l dead) (hls : LinesAt w (.slice A ls.length c) ls) (hln : ls.length ≤ 1000000) (hsl : ∀ s ∈ ls, s.size ≤ 1000000000) (g : Int) (hg : gateB dead ls = g) (hg0 : g ≠ 0) :
    Calls Tryd.prog 15 #[.pointer (some ⟨b, 0, none⟩), .slice A ls.length c] w fun e w' => e = .returned (.int .i64 g) ∧ Below w.heap.size w w' := by
  have k4 : w.cell? ⟨b, 4, none⟩ = some (.bool dead) := blk_cell hJ.block 4
  have h25 := jgate_any b dead A ls c w k4 hln hls hsl
  have H25 : Calls Tryd.prog 25 #[.pointer (some ⟨b, 0, none⟩), .slice A ls.length c] w fun e w' => e = .returned (.int .i64 g) ∧ Below w.heap.size w w' := by
    rw [← hg]; exact h25
  have hg1 : (g == 0) = false := by simpa using hg0
  clear h25 k4 hJ hls hsl hg
  go_enter Tryd.func15, Tryd.ntmps15
  go_wp2_with fail
  refine H25.mono ?_
  rintro e w1 ⟨rfl, hb⟩
  clear H25
  go_wp2
  go_ret
  exact ⟨rfl, hb⟩
set_option maxHeartbeats 800000 in
theorem save_near (bas b tb : Nat) (row : Option Nat) (lv : Value) (st : TapeSt) (side turn : Int) (l : List ByteArray) (dead : Bool) (A : Option Addr) (c : Nat) (ls : List ByteArray) (w : World) (hg : Gl w) (h8 : 8 ≤ bas) (hbs : bas ≤ w.heap.size)
    (hJ : JAt w bas b tb row lv st side turn l dead) (hok : st.Ok) (hsd : 0 ≤ side ∧ side ≤ 1) (htn : 0 ≤ turn ∧ turn ≤ 1000000000000) (hls : LinesAt w (.slice A ls.length c) ls) (hA : ∀ a, A = some a → a.block ≠ b ∧ a.block ≠ tb ∧ row ≠ some a.block) (hln : ls.length ≤ 1000) (hsl : ∀ s ∈ ls, s.size ≤ 100000) (hsz : st.s0.size + st.s1.size + Jr.mores st.loose ≤ 100000000) (hok1 : (wipeF st (1 - side)).1.Ok ∧ (wipeF st (1 - side)).1.s0.size + (wipeF st (1 - side)).1.s1.size + Jr.mores (wipeF st (1 - side)).1.loose ≤ 100000000)
    (hok2 : ∀ m, (addF (wipeF st (1 - side)).1 (1 - side) m).1.Ok) (r : TapeSt × (Int × Int × List ByteArray × Bool) × Int) (hr : anewB st side turn l dead ls = r) (hgate : gateB dead ls = 0) (h15 : r.2.2 ≠ 15) :
    Calls Tryd.prog 15 #[.pointer (some ⟨b, 0, none⟩), .slice A ls.length c] w fun e w' => e = .returned (.int .i64 r.2.2) ∧ ∃ row' lv', JAt w' bas b tb row' lv' r.1 r.2.1.1 r.2.1.2.1 r.2.1.2.2.1 r.2.1.2.2.2 ∧ RowOk w row row' ∧ FrJ w w' b tb row ∧ RowOk w lv.ownBlock lv'.ownBlock := by
  have k4 : w.cell? ⟨b, 4, none⟩ = some (.bool dead) := blk_cell hJ.block 4
  have h25 := jgate_any b dead A ls c w k4 (by omega) hls (fun s hs => Nat.le_trans (hsl s hs) (by decide))
  have H25 : Calls Tryd.prog 25 #[.pointer (some ⟨b, 0, none⟩), .slice A ls.length c] w fun e w' => e = .returned (.int .i64 0) ∧ Below w.heap.size w w' := by
    rw [← hgate]; exact h25
  have H26 := Lib.hid (show ∀ w', Below w.heap.size w w' → Calls Tryd.prog 26 #[.pointer (some ⟨b, 0, none⟩), .slice A ls.length c] w' fun e w'' => e = .returned (.int .i64 r.2.2) ∧ ∃ row' lv', JAt w'' bas b tb row' lv' r.1 r.2.1.1 r.2.1.2.1 r.2.1.2.2.1 r.2.1.2.2.2 ∧ RowOk w row row' ∧ FrJ w w'' b tb row ∧ RowOk w lv.ownBlock lv'.ownBlock from fun w' hb => by
    have hJ' : JAt w' bas b tb row lv st side turn l dead := ⟨(hb.block b (blk_lt hJ.block)).trans hJ.block, pw_own_below hJ.own hb, hJ.base, hJ.tape.below hb, hJ.ne, hJ.nrow⟩
    refine (anew_any bas b tb row lv st side turn l dead A c ls w' (hg.below hb hg.many) h8 (Nat.le_trans hbs hb.size) hJ' hok hsd htn (hls.below hb) hA hln hsl hsz hok1 hok2 r hr).mono ?_
    rintro e w'' ⟨he, row', lv', h1, h2, h3, h4⟩
    refine ⟨he, row', lv', h1, fun k hk => ?_, (FrJ.of_below hb).trans h3 (fun _ h => .inl h), fun k hk => (h4 k hk).imp id (Nat.le_trans hb.size)⟩
    rcases h2 k hk with q | q
    · exact .inl q
    · exact .inr (Nat.le_trans hb.size q))
  clear h25 k4 hJ hls hsl hr hgate hok1 hok2 hA
  obtain ⟨r1, r2, code⟩ := r
  simp only at h15 H26 ⊢
  have hc : (code == 15) = false := by simpa using h15
  go_enter Tryd.func15, Tryd.ntmps15
  go_wp2_with fail
  refine H25.mono ?_
  rintro e w1 ⟨rfl, hb⟩
  clear H25
  go_wp2_with fail
  refine (H26.out _ hb).mono ?_
  rintro e w2 ⟨rfl, row', lv', h1, h2, h3, h4⟩
  have H1 := Lib.hid h1
  have H2 := Lib.hid h2
  have H3 := Lib.hid h3
  have H4 := Lib.hid h4
  clear h1 h2 h3 h4 H26
  go_wp2
  go_ret
  exact ⟨rfl, row', lv', H1.out, H2.out, H3.out, H4.out⟩
end Go.Proofs.YtepcagakegbjfaaDoor
/- Walks of package journal: Note, where the gate refuses, and where there is room. -/
namespace Go.Proofs.YtepcagakegbjfaaDoor
open Go.RowKit Go.Proofs.YtepcagakegbjfaaDoorW.PrintWords
open Jr (bs lb bs_lb lb_bs bs_app okLine TapeSt addF sealF wipeF)

theorem gate_one (b : Nat) (dead : Bool) (s : ByteArray) (w : World) (h4 : w.cell? ⟨b, 4, none⟩ = some (.bool dead)) (hb : b < w.heap.size) (hs : s.size ≤ 1000000000) :
    Calls Tryd.prog 25 #[.pointer (some ⟨b, 0, none⟩), .slice (some ⟨w.heap.size, 0, none⟩) 1 1] (w.alloc (.cells #[.string s] 9)) fun e w' => e = .returned (.int .i64 (gateB dead [s])) ∧ Below w.heap.size w w' := by
  have hA := (Below.refl w.heap.size w).alloc (Nat.le_refl _) (Obj.cells #[.string s] 9)
  have h4' : (w.alloc (.cells #[.string s] 9)).cell? ⟨b, 4, none⟩ = some (.bool dead) := (hA.cell (p := ⟨b, 4, none⟩) hb).trans h4
  exact (jgate_any b dead (some ⟨w.heap.size, 0, none⟩) [s] 1 _ h4' (by simp) (one_str w s 9) (fun x hx => by rw [List.mem_singleton.1 hx]; exact hs)).mono fun e w' ⟨he, hb'⟩ => ⟨he, hA.trans (hb'.mono hA.size)⟩
set_option maxHeartbeats 400000 in
theorem note_gate (bas b tb : Nat) (row : Option Nat) (lv : Value) (st : TapeSt) (side turn : Int) (l : List ByteArray) (dead : Bool) (s : ByteArray) (w : World)
    (hJ : JAt w bas b tb row lv st side turn l dead) (hs : s.size ≤ 1000000000) (g : Int) (hg : gateB dead [s] = g) (hg0 : g ≠ 0) :
    Calls Tryd.prog 17 #[.pointer (some ⟨b, 0, none⟩), .string s] w fun e w' => e = .returned (.int .i64 g) ∧ Below w.heap.size w w' := by
  have k4 : w.cell? ⟨b, 4, none⟩ = some (.bool dead) := blk_cell hJ.block 4
  have H25 := gate_one b dead s w k4 (blk_lt hJ.block) hs
  rw [hg] at H25
  have hg1 : (g == 0) = false := by simpa using hg0
  clear k4 hJ hg
  go_enter Tryd.func17, Tryd.ntmps17
  go_wp2_with fail
  refine H25.mono ?_
  rintro e w1 ⟨rfl, hb⟩
  clear H25
  go_wp2
  go_ret
  exact ⟨rfl, hb⟩
set_option maxHeartbeats 800000 in
theorem note_near (bas b tb : Nat) (row : Option Nat) (lv : Value) (st : TapeSt) (side turn : Int) (l : List ByteArray) (dead : Bool) (s : ByteArray) (w : World) (hg : Gl w) (hbs : bas ≤ w.heap.size)
    (hJ : JAt w bas b tb row lv st side turn l dead) (hok : st.Ok) (hs : s.size < 100000) (hok1 : (addF st side [bs (Jr.frame (lb s))]).1.Ok) (hln : l.length ≤ 1000000) (hsz : st.s0.size + st.s1.size + Jr.mores st.loose ≤ 100000000)
    (hgate : gateB dead [s] = 0) (ht : turn ≠ 0) (r : TapeSt × List ByteArray × Bool × Int) (hr : behindB st side l dead s = r) (h15 : r.2.2.2 ≠ 15) :
    Calls Tryd.prog 17 #[.pointer (some ⟨b, 0, none⟩), .string s] w fun e w' => e = .returned (.int .i64 r.2.2.2) ∧ ∃ row' lv', JAt w' bas b tb row' lv' r.1 side turn r.2.1 r.2.2.1 ∧ RowOk w row row' ∧ FrJ w w' b tb row ∧ RowOk w lv.ownBlock lv'.ownBlock := by
  have k4 : w.cell? ⟨b, 4, none⟩ = some (.bool dead) := blk_cell hJ.block 4
  have hblt := blk_lt hJ.block
  have H25 := gate_one b dead s w k4 hblt (by omega)
  rw [hgate] at H25
  have HK := Lib.hid (show ∀ w', Below w.heap.size w w' → w'.cell? ⟨b, 2, none⟩ = some (.int .i64 turn) from fun w' hb => blk_cell ((hb.block b hblt).trans hJ.block) 2)
  have H28 := Lib.hid (show ∀ w', Below w.heap.size w w' → Calls Tryd.prog 28 #[.pointer (some ⟨b, 0, none⟩), .string s] w' fun e w'' => e = .returned (.int .i64 r.2.2.2) ∧ ∃ row' lv', JAt w'' bas b tb row' lv' r.1 side turn r.2.1 r.2.2.1 ∧ RowOk w row row' ∧ FrJ w w'' b tb row ∧ RowOk w lv.ownBlock lv'.ownBlock from fun w' hb => by
    have hJ' : JAt w' bas b tb row lv st side turn l dead := ⟨(hb.block b hblt).trans hJ.block, pw_own_below hJ.own hb, hJ.base, hJ.tape.below hb, hJ.ne, hJ.nrow⟩
    have h := behind_any bas b tb row lv st side turn l dead s w' (hg.below hb hg.many) (Nat.le_trans hbs hb.size) hJ' hok hs hok1 hln hsz
    rw [hr] at h
    refine h.mono ?_
    rintro e w'' ⟨he, row', lv', h1, h2, h3, h4⟩
    refine ⟨he, row', lv', h1, fun k hk => ?_, (FrJ.of_below hb).trans h3 (fun _ h => .inl h), fun k hk => (h4 k hk).imp id (Nat.le_trans hb.size)⟩
    rcases h2 k hk with q | q
    · exact .inl q
    · exact .inr (Nat.le_trans hb.size q))
  clear k4 hJ hr hgate hok1
  obtain ⟨r1, r2, r3, code⟩ := r
  simp only at h15 H28 ⊢
  have hc : (code == 15) = false := by simpa using h15
  have ht2 : (turn == 0) = false := by simpa using ht
  go_enter Tryd.func17, Tryd.ntmps17
  go_wp2_with fail
  refine H25.mono ?_
  rintro e w1 ⟨rfl, hb⟩
  clear H25
  have k2 := HK.out _ hb
  have hb1lt := Nat.lt_of_lt_of_le hblt hb.size
  go_wp2_with fail
  refine (H28.out _ hb).mono ?_
  rintro e w2 ⟨rfl, row', lv', h1, h2, h3, h4⟩
  have H1 := Lib.hid h1
  have H2 := Lib.hid h2
  have H3 := Lib.hid h3
  have H4 := Lib.hid h4
  clear h1 h2 h3 h4 H28 k2
  go_wp2
  go_ret
  exact ⟨rfl, row', lv', H1.out, H2.out, H3.out, H4.out⟩
end Go.Proofs.YtepcagakegbjfaaDoor
/- Walks of package journal: the first Note. -/
namespace Go.Proofs.YtepcagakegbjfaaDoor
open Go.RowKit Go.Proofs.YtepcagakegbjfaaDoorW.PrintWords
open Jr (bs lb bs_lb lb_bs bs_app okLine TapeSt addF sealF wipeF)

set_option maxHeartbeats 800000 in
theorem note_first (bas b tb : Nat) (row : Option Nat) (lv : Value) (st : TapeSt) (side : Int) (l : List ByteArray) (dead : Bool) (s : ByteArray) (w : World) (hg : Gl w) (h8 : 8 ≤ bas) (hbs : bas ≤ w.heap.size)
    (hJ : JAt w bas b tb row lv st side 0 l dead) (hok : st.Ok) (hsd : 0 ≤ side ∧ side ≤ 1) (hs : s.size ≤ 100000) (hsz : st.s0.size + st.s1.size + Jr.mores st.loose ≤ 100000000) (hok1 : (wipeF st (1 - side)).1.Ok ∧ (wipeF st (1 - side)).1.s0.size + (wipeF st (1 - side)).1.s1.size + Jr.mores (wipeF st (1 - side)).1.loose ≤ 100000000)
    (hok2 : ∀ m, (addF (wipeF st (1 - side)).1 (1 - side) m).1.Ok) (hgate : gateB dead [s] = 0) (r : TapeSt × (Int × Int × List ByteArray × Bool) × Int) (hr : anewB st side 0 l dead [s] = r) :
    Calls Tryd.prog 17 #[.pointer (some ⟨b, 0, none⟩), .string s] w fun e w' => e = .returned (.int .i64 r.2.2) ∧ ∃ row' lv', JAt w' bas b tb row' lv' r.1 r.2.1.1 r.2.1.2.1 r.2.1.2.2.1 r.2.1.2.2.2 ∧ RowOk w row row' ∧ FrJ w w' b tb row ∧ RowOk w lv.ownBlock lv'.ownBlock := by
  have k4 : w.cell? ⟨b, 4, none⟩ = some (.bool dead) := blk_cell hJ.block 4
  have hblt := blk_lt hJ.block
  have H25 := gate_one b dead s w k4 hblt (by omega)
  rw [hgate] at H25
  have HK := Lib.hid (show ∀ w', Below w.heap.size w w' → w'.cell? ⟨b, 2, none⟩ = some (.int .i64 0) from fun w' hb => blk_cell ((hb.block b hblt).trans hJ.block) 2)
  have hlow := hJ.tape.low
  have htlt : tb < w.heap.size := by
    obtain ⟨tv, _, _, hB, _⟩ := hJ.tape
    exact blk_lt hB
  have hrlt : ∀ k, row = some k → k < w.heap.size := by
    obtain ⟨tv, hrow, _, _, hO⟩ := hJ.tape
    exact fun k hk => own_lt hO k (hrow.trans hk)
  have H26 := Lib.hid (show ∀ w', Below w.heap.size w w' → Calls Tryd.prog 26 #[.pointer (some ⟨b, 0, none⟩), .slice (some ⟨w'.heap.size, 0, none⟩) 1 1] (w'.alloc (.cells #[.string s] 9)) fun e w'' => e = .returned (.int .i64 r.2.2) ∧ ∃ row' lv', JAt w'' bas b tb row' lv' r.1 r.2.1.1 r.2.1.2.1 r.2.1.2.2.1 r.2.1.2.2.2 ∧ RowOk w row row' ∧ FrJ w w'' b tb row ∧ RowOk w lv.ownBlock lv'.ownBlock from fun w' hb' => by
    have hA := (Below.refl w'.heap.size w').alloc (Nat.le_refl _) (Obj.cells #[.string s] 9)
    have hb := hb'.trans (hA.mono hb'.size)
    have hJ' : JAt (w'.alloc (.cells #[.string s] 9)) bas b tb row lv st side 0 l dead := ⟨(hb.block b hblt).trans hJ.block, pw_own_below hJ.own hb, hJ.base, hJ.tape.below hb, hJ.ne, hJ.nrow⟩
    have hws := hb'.size
    refine (anew_any bas b tb row lv st side 0 l dead (some ⟨w'.heap.size, 0, none⟩) 1 [s] _ (hg.below hb hg.many) h8 (Nat.le_trans hbs hb.size) hJ' hok hsd ⟨by omega, by omega⟩ (one_str w' s 9) ?_ (by simp) (fun x hx => by rw [List.mem_singleton.1 hx]; exact hs) hsz hok1 hok2 r hr).mono ?_
    · intro a ha
      injection ha with ha
      subst ha
      refine ⟨by simp only; omega, by simp only; omega, fun e => ?_⟩
      have := hrlt _ e
      simp only at this
      omega
    · rintro e w'' ⟨he, row', lv', h1, h2, h3, h4⟩
      refine ⟨he, row', lv', h1, fun k hk => ?_, (FrJ.of_below hb).trans h3 (fun _ h => .inl h), fun k hk => (h4 k hk).imp id (Nat.le_trans hb.size)⟩
      rcases h2 k hk with q | q
      · exact .inl q
      · exact .inr (Nat.le_trans hb.size q))
  clear k4 hJ hr hgate hok1 hok2 hlow hrlt
  obtain ⟨r1, r2, code⟩ := r
  simp only at H26 ⊢
  go_enter Tryd.func17, Tryd.ntmps17
  go_wp2_with fail
  refine H25.mono ?_
  rintro e w1 ⟨rfl, hb⟩
  clear H25
  have k2 := HK.out _ hb
  have hb1lt := Nat.lt_of_lt_of_le hblt hb.size
  go_wp2_with fail
  refine (H26.out _ hb).mono ?_
  rintro e w2 ⟨rfl, row', lv', h1, h2, h3, h4⟩
  have H1 := Lib.hid h1
  have H2 := Lib.hid h2
  have H3 := Lib.hid h3
  have H4 := Lib.hid h4
  clear h1 h2 h3 h4 H26 k2
  go_wp2
  go_ret
  exact ⟨rfl, row', lv', H1.out, H2.out, H3.out, H4.out⟩
end Go.Proofs.YtepcagakegbjfaaDoor
/- Walks of package journal: Open. -/
namespace Go.Proofs.YtepcagakegbjfaaDoor
open Go.RowKit Go.Proofs.YtepcagakegbjfaaDoorW.PrintWords
open Jr (bs lb bs_lb lb_bs bs_app okLine TapeSt sideF)

set_option maxHeartbeats 1600000 in
theorem open_down (bas tb : Nat) (row : Option Nat) (st : TapeSt) (w : World) (hT : TapeAt w bas tb row st) (hok : st.Ok) (hd : st.down = true) :
    Calls Tryd.prog 12 #[.pointer (some ⟨tb, 0, none⟩)] w fun e w' => e = .returned (.tuple #[.pointer none, .int .i64 16]) ∧ Below w.heap.size w w' := by
  have hsd : (sideF st 0) = (⟨#[]⟩, 16) := by unfold sideF; rw [if_pos hd]
  go_enter Tryd.func12, Tryd.ntmps12
  go_wp2_with fail
  refine wp_loop_rounds 3 ?_
  rw [rounds_succ]
  go_wp2_with fail
  have hT2 := hT.below ((Below.refl w.heap.size w).alloc (Nat.le_refl _) (Obj.cells (jnCells tb 0 0 (.slice none 0 0) false) 58))
  refine (side_any bas tb row st 0 _ hT2 hok).mono ?_
  rintro e w1 ⟨rfl, hb1⟩
  rw [hsd]
  have hb := ((Below.refl w.heap.size w).alloc (Nat.le_refl _) (Obj.cells (jnCells tb 0 0 (.slice none 0 0) false) 58)).trans (hb1.mono (by simp))
  clear hT hT2 hb1 hsd
  go_wp2
  go_ret2
  exact ⟨rfl, hb⟩
/-- What an opener has made of the first k sides. -/
def openP (st : TapeSt) : Nat → Int × Int × List ByteArray
  | 0 => (0, 0, [])
  | k + 1 => if (openP st k).2.1 < (readV (if k = 0 then st.now.1 else st.now.2)).1 then ((k : Int), (readV (if k = 0 then st.now.1 else st.now.2)).1, (readV (if k = 0 then st.now.1 else st.now.2)).2) else openP st k
set_option maxHeartbeats 1600000 in
theorem open_any (hU : Unf) (bas tb : Nat) (row : Option Nat) (st : TapeSt) (w : World) (hg : Gl w) (hbs : bas ≤ w.heap.size) (hT : TapeAt w bas tb row st) (hok : st.Ok) (hd : st.down = false) (hs0 : st.now.1.size ≤ 1000000000) (hs1 : st.now.2.size ≤ 1000000000) :
    Calls Tryd.prog 12 #[.pointer (some ⟨tb, 0, none⟩)] w fun e w' => ∃ lv, e = .returned (.tuple #[.pointer (some ⟨w.heap.size, 0, none⟩), .int .i64 0]) ∧ w'.heap[w.heap.size]? = some (.cells (jnCells tb (openP st 2).1 (openP st 2).2.1 lv false) 58 (0, 0)) ∧ OwnLines w' w.heap.size lv (openP st 2).2.2 ∧ Below w.heap.size w w' := by
  have HSD := Lib.hid (show ∀ k : Nat, k < 2 → sideF st k = (if k = 0 then st.now.1 else st.now.2, 0) from fun k hk => by
    unfold sideF
    rw [if_neg (by rw [hd]; decide), if_neg (by omega)]
    rcases (by omega : k = 0 ∨ k = 1) with rfl | rfl <;> rfl)
  have HSZ := Lib.hid (show ∀ k : Nat, (if k = 0 then st.now.1 else st.now.2).size ≤ 1000000000 from fun k => by split <;> assumption)
  clear hs0 hs1 hd
  go_enter Tryd.func12, Tryd.ntmps12
  go_wp2_with fail
  go_loopw [13] (fun i wr => ∃ (k : Nat) (lv : Value), k ≤ 2 ∧ i = .int .i64 k ∧ wr.heap[w.heap.size]? = some (.cells (jnCells tb (openP st k).1 (openP st k).2.1 lv false) 58 (0, 0)) ∧ OwnLines wr w.heap.size lv (openP st k).2.2 ∧ Below w.heap.size w wr) (fun i _ => 2 - (intOf i).toNat)
  case atStart => exact ⟨0, _, by omega, rfl, blk_new _ _, own_none _ _, (Below.refl _ _).alloc (Nat.le_refl _) _⟩
  case round =>
    obtain ⟨k, lv, hk, rfl, hB, hO, hb⟩ := hrel
    by_cases hlt : k < 2
    · have hsd := HSD.out k hlt
      have hsz := HSZ.out k
      have HP := Lib.hid (show openP st (k + 1) = if (openP st k).2.1 < (readV (if k = 0 then st.now.1 else st.now.2)).1 then ((k : Int), (readV (if k = 0 then st.now.1 else st.now.2)).1, (readV (if k = 0 then st.now.1 else st.now.2)).2) else openP st k from rfl)
      generalize (if k = 0 then st.now.1 else st.now.2) = s at *
      generalize hop : openP st k = o at *
      obtain ⟨side, turn, l⟩ := o
      have HOP := Lib.hid hop
      clear hop
      simp only at hB hO HP
      have hbw := blk_lt hB
      have HB := Lib.hid hB
      have HO := Lib.hid hO
      clear hB hO
      go_wp2_with fail
      refine (side_any bas tb row st k _ (hT.below hb) hok).mono ?_
      rintro e w1 ⟨rfl, hb1⟩
      rw [hsd]
      have hb01 := hb.trans (hb1.mono hb.size)
      go_wp2_with fail
      refine (read_any hU s hsz _ (hg.below hb01 hg.many)).mono ?_
      rintro e w2 ⟨v, rfl, hv, hb2⟩
      have hbw2 : Below wr.heap.size wr w2 := hb1.trans (hb2.mono hb1.size)
      have hb02 := hb.trans (hbw2.mono hb.size)
      have hB2 := blk_below HB.out hbw2
      have k2 : w2.cell? ⟨w.heap.size, 2, none⟩ = some (.int .i64 turn) := blk_cell hB2 2
      have g1 : w2.frozen? ⟨w.heap.size, 1, none⟩ = false := blk_frozen hB2 1
      have g2 : w2.frozen? ⟨w.heap.size, 2, none⟩ = false := blk_frozen hB2 2
      have g3 : w2.frozen? ⟨w.heap.size, 3, none⟩ = false := blk_frozen hB2 3
      have k1 : w2.cell? ⟨w.heap.size, 1, none⟩ = some (.int .i64 side) := blk_cell hB2 1
      have k3 : w2.cell? ⟨w.heap.size, 3, none⟩ = some lv := blk_cell hB2 3
      have hO2 : OwnLines w2 w.heap.size lv l := pw_own_below HO.out hbw2
      have hv2 : OwnLines w2 w.heap.size v (readV s).2 := own_weaken hv hb01.size
      obtain ⟨A, c, rfl⟩ := own_slice hv2
      have hlt2 : w.heap.size < w2.heap.size := blk_lt hB2
      generalize hrv : readV s = rv at *
      obtain ⟨t', l'⟩ := rv
      simp only at HP hv2 ⊢
      by_cases hlt3 : turn < t'
      · have HPV := Lib.hid (show openP st (k + 1) = ((k : Int), t', l') from by rw [HP.out]; exact if_pos hlt3)
        have hF : Fr w2 (((w2.setCell ⟨w.heap.size, 1, none⟩ (.int .i64 k)).setCell ⟨w.heap.size, 2, none⟩ (.int .i64 t')).setCell ⟨w.heap.size, 3, none⟩ (.slice A l'.length c)) w.heap.size none := (((Fr.refl _ _ _).set _ _).set _ _).set _ _
        have HB5 := Lib.hid (show (((w2.setCell ⟨w.heap.size, 1, none⟩ (.int .i64 k)).setCell ⟨w.heap.size, 2, none⟩ (.int .i64 t')).setCell ⟨w.heap.size, 3, none⟩ (.slice A l'.length c)).heap[w.heap.size]? = some (.cells (jnCells tb k t' (.slice A l'.length c) false) 58 (0, 0)) from blk_set (blk_set (blk_set hB2 1 _) 2 _) 3 _)
        have HO5 := Lib.hid (own_frb hv2 hB2 hF)
        have HBL := Lib.hid (hb02.trans (hF.below (B := w.heap.size) (by omega) (Nat.le_refl _) (fun k hk => by cases hk)))
        clear hrv hsd hB2 hO2 hv2 hv hF hb01 hb1 hb2 hbw2 hb02 hb
        go_wp2
        go_roundw
        case rel => exact ⟨k + 1, _, by omega, by go_num, by rw [HPV.out]; exact HB5.out, by rw [HPV.out]; exact HO5.out, HBL.out⟩
        case measure => simp [intOf]; omega
      · have HPV := Lib.hid (show openP st (k + 1) = (side, turn, l) from by rw [HP.out]; exact if_neg hlt3)
        have HB5 := Lib.hid hB2
        have HO5 := Lib.hid hO2
        have HBL := Lib.hid hb02
        clear hrv hsd hB2 hO2 hv2 hv hb01 hb1 hb2 hbw2 hb02 hb
        go_wp2
        go_roundw
        case rel => exact ⟨k + 1, _, by omega, by go_num, by rw [HPV.out]; exact HB5.out, by rw [HPV.out]; exact HO5.out, HBL.out⟩
        case measure => simp [intOf]; omega
    · obtain rfl : k = 2 := by omega
      have HB := Lib.hid hB
      have HO := Lib.hid hO
      clear hB hO
      go_wp2
      go_ret2
      exact ⟨lv, rfl, HB.out, HO.out, hb⟩
end Go.Proofs.YtepcagakegbjfaaDoor
/- What an opener has made is the journal that the tape has, in plain words. -/
namespace Go.Proofs.YtepcagakegbjfaaDoor
open Jr (bs lb bs_lb lb_bs TapeSt)
theorem map_lb_bs (l : List (List UInt8)) : (l.map bs).map lb = l := by
  induction l with
  | nil => rfl
  | cons x l ih => rw [List.map_cons, List.map_cons, ih, lb_bs]
theorem openP_eq (st : TapeSt) : Jr.openJ st = ⟨(openP st 2).1, (openP st 2).2.1, (openP st 2).2.2.map lb, false⟩ := by
  unfold Jr.openJ Jr.pickJ Jr.readB
  have e1 : openP st 2 = if (openP st 1).2.1 < (readV st.now.2).1 then (1, (readV st.now.2).1, (readV st.now.2).2) else openP st 1 := rfl
  have e0 : openP st 1 = if 0 < (readV st.now.1).1 then (0, (readV st.now.1).1, (readV st.now.1).2) else (0, 0, []) := rfl
  have r1 : (readV st.now.1).1 = (Jr.readF (lb st.now.1)).1 ∧ (readV st.now.1).2.map lb = (Jr.readF (lb st.now.1)).2 := ⟨rfl, map_lb_bs _⟩
  have r2 : (readV st.now.2).1 = (Jr.readF (lb st.now.2)).1 ∧ (readV st.now.2).2.map lb = (Jr.readF (lb st.now.2)).2 := ⟨rfl, map_lb_bs _⟩
  rw [e1, e0, r1.1, r2.1]
  by_cases h0 : 0 < (Jr.readF (lb st.now.1)).1
  · simp only [if_pos h0]
    by_cases h1 : (Jr.readF (lb st.now.1)).1 < (Jr.readF (lb st.now.2)).1
    · simp only [if_pos h1, r2.2]
    · simp only [if_neg h1, r1.2]
  · simp only [if_neg h0]
    by_cases h1 : 0 < (Jr.readF (lb st.now.2)).1
    · simp only [if_pos h1, r2.2]
    · simp only [if_neg h1, List.map_nil]
end Go.Proofs.YtepcagakegbjfaaDoor
