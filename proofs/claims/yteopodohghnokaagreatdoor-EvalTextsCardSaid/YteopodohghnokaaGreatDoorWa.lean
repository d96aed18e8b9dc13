/- A text of four parts, two of them names: may it be: the walks. -/
import Derived.Test.YteopodohghnokaaGreatDoorVe
import Derived.Test.YteopodohghnokaaGreatDoorVl
namespace Go.Proofs.YteopodohghnokaaGreatDoor
open Go Go.Proofs Go.RowKit
set_option maxRecDepth 100000
set_option linter.unusedSimpArgs false
set_option linter.unusedVariables false
set_option maxHeartbeats 2000000

theorem printed_any (s : ByteArray) (hs : s.size ≤ 9223372036854775807) (h : ∀ i, i < s.size → 32 ≤ bt s i) (w : World) : Calls Tryz.prog 137 #[.string s] w fun e w' => e = .returned (.bool true) ∧ w' = w := by
  have H := Lib.hid h
  clear h
  go_enter Tryz.func137, Tryz.ntmps137
  go_wp2_with fail
  go_loopw [6] (fun iv wr => ∃ i : Nat, i ≤ s.size ∧ iv = .int .i64 i ∧ wr = w) (fun iv _ => s.size - (intOf iv).toNat)
  case atStart => exact ⟨0, by omega, rfl, rfl⟩
  case round =>
    obtain ⟨i, hi, rfl, hw⟩ := hrel
    subst hw
    by_cases hlt : i < s.size
    · have hbi := bt_at hlt
      have hlt' : (i : Int) < s.size := by omega
      have h32 := H.out i hlt
      have h32' : ¬ bt s i < 32 := by omega
      go_wp2_with fail
      go_roundw
      case rel => exact ⟨i + 1, by omega, by go_num, by simp⟩
      case measure => simp [intOf]; omega
    · obtain rfl : i = s.size := by omega
      go_wp2_with fail
      go_ret
      exact ⟨rfl, rfl⟩
def varN : ByteArray := ⟨#[118, 97, 114, 46, 110]⟩
def varB : ByteArray := ⟨#[118, 97, 114, 46, 98]⟩
structure PtsAt (w : World) (β o : Nat) (s t : ByteArray) : Prop where
  c0 : w.cell? ⟨β, o, none⟩ = some (.bool false)
  c1 : w.cell? ⟨β, o + 1, none⟩ = some (.string s)
  c2 : w.cell? ⟨β, o + 2, none⟩ = some (.bool true)
  c3 : w.cell? ⟨β, o + 3, none⟩ = some (.string ⟨#[118, 97, 114, 46, 110]⟩)
  c4 : w.cell? ⟨β, o + 4, none⟩ = some (.bool false)
  c5 : w.cell? ⟨β, o + 5, none⟩ = some (.string t)
  c6 : w.cell? ⟨β, o + 6, none⟩ = some (.bool true)
  c7 : w.cell? ⟨β, o + 7, none⟩ = some (.string ⟨#[118, 97, 114, 46, 98]⟩)
theorem PtsAt.below {w w' : World} {β o : Nat} {s t : ByteArray} (h : PtsAt w β o s t) (hb : Below w.heap.size w w') : PtsAt w' β o s t :=
  ⟨cell_below hb h.c0, cell_below hb h.c1, cell_below hb h.c2, cell_below hb h.c3, cell_below hb h.c4, cell_below hb h.c5, cell_below hb h.c6, cell_below hb h.c7⟩
theorem parts4 (s t : ByteArray) (β c : Nat) (w : World) (hp : PtsAt w β 0 s t) (hs : s.toList.isEmpty = false) (ht : t.toList.isEmpty = false)
    (hps : ∀ W, Calls Tryz.prog 137 #[.string s] W fun e w' => e = .returned (.bool true) ∧ w' = W) (hpt : ∀ W, Calls Tryz.prog 137 #[.string t] W fun e w' => e = .returned (.bool true) ∧ w' = W)
    (hrn : ∀ W, Calls Tryz.prog 106 #[.string ⟨#[118, 97, 114, 46, 110]⟩] W fun e w' => e = .returned (.bool true) ∧ Below W.heap.size W w') (hrb : ∀ W, Calls Tryz.prog 106 #[.string ⟨#[118, 97, 114, 46, 98]⟩] W fun e w' => e = .returned (.bool true) ∧ Below W.heap.size W w') :
    Calls Tryz.prog 109 #[.slice (some ⟨β, 0, none⟩) 4 c] w fun e w' => e = .returned (.bool true) ∧ Below w.heap.size w w' := by
  have HS := Lib.hid hps
  have HT := Lib.hid hpt
  have HN := Lib.hid hrn
  have HB := Lib.hid hrb
  have HP := Lib.hid hp
  clear hps hpt hrn hrb
  obtain ⟨c0, c1, c2, c3, c4, c5, c6, c7⟩ := hp
  go_enter Tryz.func109, Tryz.ntmps109
  go_wp2_with fail
  refine wp_loop_rounds 5 ?_
  rw [rounds_succ]
  go_wp2_with fail
  refine (HS.out _).mono ?_
  rintro e w1 ⟨rfl, hw1⟩
  have hb1 : Below w.heap.size w w1 := by rw [hw1]; exact (Below.refl _ _).alloc (Nat.le_refl _) _
  have hP1 := HP.out.below hb1
  clear hw1 c0 c1 c2 c3 c4 c5 c6 c7 HS
  obtain ⟨c0, c1, c2, c3, c4, c5, c6, c7⟩ := hP1
  go_wp2_with fail
  rw [rounds_succ]
  go_wp2_with fail
  refine (HN.out _).mono ?_
  rintro e w2 ⟨rfl, hb2⟩
  have hbb2 := hb1.trans (((Below.refl w1.heap.size w1).alloc (Nat.le_refl _) _).trans (hb2.mono (by simp)) |>.mono hb1.size)
  have hP2 := HP.out.below hbb2
  clear hb2 hb1 c0 c1 c2 c3 c4 c5 c6 c7 HN
  obtain ⟨c0, c1, c2, c3, c4, c5, c6, c7⟩ := hP2
  go_wp2_with fail
  rw [rounds_succ]
  have x2 := cell_alloc (.cells #[.bool false, .string t] 48) c2
  go_wp2_with fail
  refine (HT.out _).mono ?_
  rintro e w3 ⟨rfl, hw3⟩
  have hb3 : Below w.heap.size w w3 := by rw [hw3]; exact hbb2.alloc hbb2.size _
  have hP3 := HP.out.below hb3
  clear hw3 hbb2 c0 c1 c2 c3 c4 c5 c6 c7 HT x2
  obtain ⟨c0, c1, c2, c3, c4, c5, c6, c7⟩ := hP3
  go_wp2_with fail
  rw [rounds_succ]
  go_wp2_with fail
  refine (HB.out _).mono ?_
  rintro e w4 ⟨rfl, hb4⟩
  have hbb4 := hb3.trans (((Below.refl w3.heap.size w3).alloc (Nat.le_refl _) _).trans (hb4.mono (by simp)) |>.mono hb3.size)
  clear hb4 hb3 c0 c1 c2 c3 c4 c5 c6 c7 HB
  go_wp2_with fail
  rw [rounds_succ]
  go_wp2_with fail
  go_ret
  exact ⟨rfl, hbb4⟩
end Go.Proofs.YteopodohghnokaaGreatDoor
