/- Walks of package tape's law package: the example. -/
import Derived.Test.YtallocndghjoeaaTj
namespace Go.Proofs.Ytallocndghjoeaa
open Go.RowKit Go.Proofs.YtallocndghjoeaaW.PrintWords

theorem Fr.belowT {w w1 : World} {b base : Nat} {row : Option Nat} {st : TapeSt} (h : Fr w w1 b row) (hT : TapeAt w base b row st) (hB : base ≤ w.heap.size) : Below base w w1 := by
  obtain ⟨lv, hr, hb, _, hO⟩ := hT
  exact h.below hB hb (fun k hk => own_base hO k (by rw [hr]; exact hk))

def ex1 : TapeSt := newSt 100 0 0 0
def ex2 : TapeSt := (addF ex1 1 [⟨#[97]⟩, ⟨#[98]⟩]).1
def ex3 : TapeSt := fallF ex2 100 0 0 0
theorem ex_add : (addF ex1 1 [⟨#[97]⟩, ⟨#[98]⟩]).2 = 0 := by decide +kernel
theorem ex_side : sideF ex2 1 = (⟨#[97, 98]⟩, 0) := by decide +kernel
theorem ex_fall : sideF ex3 1 = (⟨#[]⟩, 0) := by decide +kernel

theorem ex1_ok : ex1.Ok := ⟨(by intro c hc; cases hc), by decide +kernel, by decide +kernel, by decide +kernel, by decide +kernel⟩
theorem ex2_ok : ex2.Ok := ⟨(by
  intro c hc
  have h : ex2.loose = [⟨1, false, ⟨#[97, 98]⟩⟩] := by kernel_rfl
  rw [h] at hc
  simp only [List.mem_singleton] at hc
  subst hc
  exact ⟨by decide, by decide⟩), by decide +kernel, by decide +kernel, by decide +kernel, by decide +kernel⟩
theorem ex3_ok : ex3.Ok := ⟨(by intro c hc; cases hc), by decide +kernel, by decide +kernel, by decide +kernel, by decide +kernel⟩

set_option maxHeartbeats 800000 in
theorem awake_any (w : World) : Calls Try.prog 14 #[] w fun e w' => e = .returned (.bool true) ∧ Below w.heap.size w w' := by
  go_enter Try.func14, Try.ntmps14
  go_wp2_with fail
  refine (new_any 100 0 0 0 _).mono ?_
  rintro e w1 ⟨b, rfl, hT1, hb1⟩
  go_wp2_with fail
  have hA := (Below.refl w1.heap.size w1).alloc (Nat.le_refl _) (Obj.cells #[Value.string { data := #[97] }, Value.string { data := #[98] }] 9)
  refine (add_any w.heap.size b none ex1 1 _ [⟨#[97]⟩, ⟨#[98]⟩] _ (hT1.below hA) ex1_ok (Nat.le_trans hb1.size hA.size) (.inr ⟨w1.heap.size, 0, 2, rfl, by simp, ?_⟩) (by decide) (by decide +kernel)).mono ?_
  · intro k hk
    have hk' : k < 2 := hk
    have hnew := blk_new w1 (Obj.cells #[Value.string { data := #[97] }, Value.string { data := #[98] }] 9)
    rcases (by omega : k = 0 ∨ k = 1) with rfl | rfl
    · exact blk_cell hnew 0
    · exact blk_cell hnew 1
  rintro e w2 ⟨rfl, row2, hT2, hr2, hF2⟩
  rw [ex_add]
  have hb2 : Below w.heap.size w w2 := (hb1.trans (hA.mono hb1.size)).trans (hF2.belowT (hT1.below hA) (Nat.le_trans hb1.size hA.size))
  clear hF2 hr2 hA hT1
  go_wp2_with fail
  refine (side_any w.heap.size b row2 ex2 1 _ hT2 ex2_ok).mono ?_
  rintro e w3 ⟨rfl, hb3⟩
  rw [ex_side]
  have hT3 : TapeAt w3 w.heap.size b row2 ex2 := TapeAt.below hT2 hb3
  have hb03 := hb2.trans (hb3.mono hb2.size)
  clear hT2 hb3 hb2
  go_wp2_with fail
  refine (fall_any w.heap.size b row2 ex2 100 0 0 0 _ hT3 ex2_ok).mono ?_
  rintro e w4 ⟨rfl, row4, hT4, hr4, hF4⟩
  have hb4 : Below w.heap.size w w4 := hb03.trans (hF4.belowT hT3 hb03.size)
  clear hF4 hr4 hT3
  go_wp2_with fail
  refine (side_any w.heap.size b row4 ex3 1 _ hT4 ex3_ok).mono ?_
  rintro e w5 ⟨rfl, hb5⟩
  rw [ex_fall]
  have hb05 := hb4.trans (hb5.mono hb4.size)
  clear hT4 hb5 hb4
  go_wp2
  go_ret
  exact ⟨rfl, hb05⟩
end Go.Proofs.Ytallocndghjoeaa
