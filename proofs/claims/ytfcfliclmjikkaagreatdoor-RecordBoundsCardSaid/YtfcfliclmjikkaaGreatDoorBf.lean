/- Package record: may work be? -/
import Derived.Test.YtfcfliclmjikkaaGreatDoorBe
namespace Go.Proofs.YtfcfliclmjikkaaGreatDoor
open Go Go.Proofs
open Go.RowKit
set_option maxRecDepth 100000
set_option linter.unusedVariables false
set_option linter.unusedSimpArgs false
set_option maxHeartbeats 2000000

/-- May work be, of so many marks and steps in their order? -/
def mayB (k p : Nat) (d : Int) : Bool := (decide (d = 0) || (decide (0 < d) && decide (d < p))) && decide (k ≤ 240) && decide (p ≤ 480)
theorem may_any (vM vS : Value) (k p : Nat) (d : Int) (hk : k < 260) (hp : p < 500) (w : World) (hM : MkAt w vM k) (hS : StAt w vS p) :
    Calls Tryz.prog 16 #[.agg #[vM, vS, .int .i64 d]] w fun e w' => e = .returned (.bool (mayB k p d)) ∧ Below w.heap.size w w' := by
  have HM := Lib.hid hM
  have HS := Lib.hid hS
  obtain ⟨A, cap, rfl⟩ := hM.len
  obtain ⟨A', cap', rfl⟩ := hS.len
  clear hM hS
  go_enter Tryz.func16, Tryz.ntmps16
  have HB0 : RowKit.Hid (Below w.heap.size w (w.alloc (.cells #[.slice A k cap, .slice A' p cap', .int .i64 d] 27))) := (Below.refl w.heap.size w).alloc (Nat.le_refl _) _
  go_wp2_with fail
  refine (sorted_any _ k (by omega) _ (HM.out.below HB0.out)).mono ?_
  rintro e w1 ⟨rfl, hb1⟩
  have f0 : w1.cell? ⟨w.heap.size, 0, none⟩ = some (.slice A k cap) := (hb1.cell (p := ⟨w.heap.size, 0, none⟩) (by simp)).trans (by simp)
  have f1 : w1.cell? ⟨w.heap.size, 1, none⟩ = some (.slice A' p cap') := (hb1.cell (p := ⟨w.heap.size, 1, none⟩) (by simp)).trans (by simp)
  have f2 : w1.cell? ⟨w.heap.size, 2, none⟩ = some (.int .i64 d) := (hb1.cell (p := ⟨w.heap.size, 2, none⟩) (by simp)).trans (by simp)
  have hlt1 : w.heap.size < w1.heap.size := by have := hb1.size; simp at this; omega
  have HB1 := Lib.hid (HB0.out.trans (hb1.mono HB0.out.size))
  clear hb1
  go_wp2_with fail
  go_loopw [3, 15] (fun r i wr => r = .bool true ∧ ∃ j : Nat, j ≤ k ∧ i = .int .i64 j ∧ RowKit.Hid (Below w.heap.size w wr) ∧ RowKit.Hid (Below w1.heap.size w1 wr)) (fun _ i _ => k - (intOf i).toNat)
  case atStart => exact ⟨rfl, 0, by omega, rfl, HB1, Below.refl _ _⟩
  case round =>
    obtain ⟨rfl, j, hj, rfl, hb, hb1⟩ := hrel
    have hs1 := hb1.out.size
    by_cases hlt : j < k
    · rcases HM.out with ⟨_, h0⟩ | ⟨g, o, cap2, he, hg, hcells⟩
      · omega
      obtain rfl : A = some ⟨g, o, none⟩ := by injection he
      have hc : ∀ off, wr.cell? ⟨g, off, none⟩ = w.cell? ⟨g, off, none⟩ := fun off => hb.out.cell (p := ⟨g, off, none⟩) hg
      obtain ⟨a0, a1, a2, a3, a4, a5⟩ := hcells j hlt
      rw [← hc] at a0 a1 a2 a3 a4 a5
      have HN : RowKit.Hid (Below wr.heap.size wr (wr.alloc (.cells #[.string ⟨(nmA j).toArray⟩, .string ByteArray.empty, .int .i64 0, .int .i64 0, .int .i64 0, .int .i64 1] 46))) := (Below.refl wr.heap.size wr).alloc (Nat.le_refl _) _
      clear hc hcells he f0 f1 f2
      go_wp2_with fail
      refine (may_calls (i := j) (by omega) _).mono ?_
      rintro e w2 ⟨rfl, hb2⟩
      have hs2 := HN.out.size
      have HB2 := Lib.hid (hb.out.trans ((HN.out.trans (hb2.mono hs2)).mono hb.out.size))
      have HB3 := Lib.hid (hb1.out.trans ((HN.out.trans (hb2.mono hs2)).mono hb1.out.size))
      clear hb2 a0 a1 a2 a3 a4 a5
      go_wp2
      go_roundw
      case rel => exact ⟨rfl, j + 1, by omega, by go_num, HB2, HB3⟩
      case measure => simp [intOf]; omega
    · have f1r := (hb1.out.cell (p := ⟨w.heap.size, 1, none⟩) hlt1).trans f1
      have f0r := (hb1.out.cell (p := ⟨w.heap.size, 0, none⟩) hlt1).trans f0
      have f2r := (hb1.out.cell (p := ⟨w.heap.size, 2, none⟩) hlt1).trans f2
      clear f0 f1 f2
      go_wp2_with fail
      have F0 := Lib.hid f0r
      have F1 := Lib.hid f1r
      have F2 := Lib.hid f2r
      have hltr : w.heap.size < wr.heap.size := by omega
      clear f0r f1r f2r
      generalize wr = wa at *
      go_loopw [3, 28] (fun r i wr => r = .bool true ∧ ∃ j : Nat, j ≤ p ∧ i = .int .i64 j ∧ RowKit.Hid (Below w.heap.size w wr) ∧ RowKit.Hid (Below wa.heap.size wa wr)) (fun _ i _ => p - (intOf i).toNat)
      case atStart => exact ⟨rfl, 0, by omega, rfl, hb, Below.refl _ _⟩
      case round =>
        obtain ⟨rfl, j2, hj2, rfl, hc, hc1⟩ := hrel
        have hs3 := hc1.out.size
        by_cases hlt2 : j2 < p
        · rcases HS.out with ⟨_, h0⟩ | ⟨g, o, cap2, he, hg, hcells⟩
          · omega
          obtain rfl : A' = some ⟨g, o, none⟩ := by injection he
          have hcc : ∀ off, wr.cell? ⟨g, off, none⟩ = w.cell? ⟨g, off, none⟩ := fun off => hc.out.cell (p := ⟨g, off, none⟩) hg
          obtain ⟨a0, a1, a2, a3, a4, a5⟩ := hcells j2 hlt2
          rw [← hcc] at a0 a1 a2 a3 a4 a5
          have HN : RowKit.Hid (Below wr.heap.size wr (wr.alloc (.cells #[.int .i64 4, .string ⟨#[120]⟩, .string ByteArray.empty, .int .i64 0, .int .i64 0, .int .i64 0] 35))) := (Below.refl wr.heap.size wr).alloc (Nat.le_refl _) _
          clear hcc hcells he
          go_wp2_with fail
          refine (stepMay_calls _).mono ?_
          rintro e w2 ⟨rfl, hb2⟩
          have hs2 := HN.out.size
          have HB2 := Lib.hid (hc.out.trans ((HN.out.trans (hb2.mono hs2)).mono hc.out.size))
          have HB3 := Lib.hid (hc1.out.trans ((HN.out.trans (hb2.mono hs2)).mono hc1.out.size))
          clear hb2 a0 a1 a2 a3 a4 a5
          go_wp2
          go_roundw
          case rel => exact ⟨rfl, j2 + 1, by omega, by go_num, HB2, HB3⟩
          case measure => simp [intOf]; omega
        · have f0 := (hc1.out.cell (p := ⟨w.heap.size, 0, none⟩) hltr).trans F0.out
          have f1 := (hc1.out.cell (p := ⟨w.heap.size, 1, none⟩) hltr).trans F1.out
          have f2 := (hc1.out.cell (p := ⟨w.heap.size, 2, none⟩) hltr).trans F2.out
          have hk0 : (0 : Int) ≤ (k : Int) := by omega
          have hp0 : (0 : Int) ≤ (p : Int) := by omega
          have key : ∀ x : Bool, mayB k p d = x → ∀ (e : Ending) w', e = .returned (.bool x) → Below w.heap.size w w' → e = .returned (.bool (mayB k p d)) ∧ Below w.heap.size w w' := fun x hx e w' he hb => ⟨by rw [hx]; exact he, hb⟩
          have HK := Lib.hid key
          clear key
          by_cases q1 : d = 0
          · subst q1
            by_cases q4 : (k : Int) ≤ 240
            · by_cases q5 : (p : Int) ≤ 480
              · go_wp2
                go_ret
                exact HK.out true (by simp [mayB]; omega) _ _ rfl hc.out
              · go_wp2
                go_ret
                exact HK.out false (by simp [mayB]; omega) _ _ rfl hc.out
            · go_wp2
              go_ret
              exact HK.out false (by simp [mayB]; omega) _ _ rfl hc.out
          · by_cases q2 : 0 < d
            · by_cases q3 : d < (p : Int)
              · by_cases q4 : (k : Int) ≤ 240
                · by_cases q5 : (p : Int) ≤ 480
                  · go_wp2
                    go_ret
                    exact HK.out true (by simp [mayB, q1, q2, q3]; omega) _ _ rfl hc.out
                  · go_wp2
                    go_ret
                    exact HK.out false (by simp [mayB, q1, q2, q3]; omega) _ _ rfl hc.out
                · go_wp2
                  go_ret
                  exact HK.out false (by simp [mayB, q1, q2, q3]; omega) _ _ rfl hc.out
              · go_wp2
                go_ret
                exact HK.out false (by simp [mayB, q1, q2]; omega) _ _ rfl hc.out
            · go_wp2
              go_ret
              exact HK.out false (by simp [mayB, q1]; omega) _ _ rfl hc.out
end Go.Proofs.YtfcfliclmjikkaaGreatDoor
