/- A text of four parts: may it be, by the document; both readings of its node: the walks. -/
import Derived.Test.YteopodohghnokaaGreatDoorWa
namespace Go.Proofs.YteopodohghnokaaGreatDoor
open Go Go.Proofs Go.RowKit
set_option maxRecDepth 100000
set_option linter.unusedSimpArgs false
set_option linter.unusedVariables false
set_option maxHeartbeats 2000000

theorem kids2 (W : World) : Calls Tryz.prog 77 #[.int .i64 2] W fun e w' => e = .returned (.int .i64 0) ∧ w' = W := by
  go_enter Tryz.func77, Tryz.ntmps77
  go_wp2_with fail
  all_goals
    go_ret
    exact ⟨rfl, rfl⟩
theorem arms2 (W : World) : Calls Tryz.prog 28 #[.int .i64 2] W fun e w' => e = .returned (.int .i64 0) ∧ w' = W := by
  go_enter Tryz.func28, Tryz.ntmps28
  go_wp2_with fail
  all_goals
    go_ret
    exact ⟨rfl, rfl⟩
theorem plain2 (s t : ByteArray) (β c : Nat) (w : World) (hp : PtsAt w β 0 s t)
    (hparts : ∀ W, PtsAt W β 0 s t → Calls Tryz.prog 109 #[.slice (some ⟨β, 0, none⟩) 4 c] W fun e w' => e = .returned (.bool true) ∧ Below W.heap.size W w') :
    Calls Tryz.prog 78 #[.agg #[.int .i64 2, .int .i64 0, .string ⟨#[]⟩, .slice (some ⟨β, 0, none⟩) 4 c, .slice none 0 0]] w fun e w' => e = .returned (.bool true) ∧ Below w.heap.size w w' := by
  have HC := Lib.hid hparts
  have HP := Lib.hid hp
  clear hparts hp
  go_enter Tryz.func78, Tryz.ntmps78
  go_wp2_with fail
  go_quiet (fail)
  obtain ⟨W, hW⟩ : ∃ W, W = (w.alloc (Obj.cells #[Value.int IntKind.i64 2, Value.int IntKind.i64 0, Value.string ⟨#[]⟩, Value.slice (some ⟨β, 0, none⟩) 4 c, Value.slice none 0 0] 29)).drewN nq := ⟨_, rfl⟩
  have hb : Below w.heap.size w W := by rw [hW]; exact ((Below.refl w.heap.size w).alloc (Nat.le_refl _) _).trans ((below_drewN _ nq).mono (by simp))
  have k : W.heap[w.heap.size]? = some (.cells #[Value.int IntKind.i64 2, Value.int IntKind.i64 0, Value.string ⟨#[]⟩, Value.slice (some ⟨β, 0, none⟩) 4 c, Value.slice none 0 0] 29) := by rw [hW]; exact bk_below (bk_new _ _) (below_drewN _ nq)
  have q0 : W.cell? ⟨w.heap.size, 0, none⟩ = some (.int .i64 2) := (bk_cell k 0).trans rfl
  have q3 : W.cell? ⟨w.heap.size, 3, none⟩ = some (.slice (some ⟨β, 0, none⟩) 4 c) := (bk_cell k 3).trans rfl
  rw [← hW]
  clear hW
  go_wp2_with fail
  refine (HC.out _ (HP.out.below hb)).mono ?_
  rintro e w2 ⟨rfl, hb2⟩
  have hbb := hb.trans (hb2.mono hb.size)
  clear hb hb2 k q0 q3 HC
  go_wp2_with fail
  go_ret
  exact ⟨rfl, hbb⟩
theorem leaf2 (s t : ByteArray) (β c : Nat) (w : World) (hp : PtsAt w β 0 s t)
    (hparts : ∀ W, PtsAt W β 0 s t → Calls Tryz.prog 53 #[.slice (some ⟨β, 0, none⟩) 4 c] W fun e w' => e = .returned (.bool true) ∧ Below W.heap.size W w') :
    Calls Tryz.prog 29 #[.agg #[.int .i64 2, .int .i64 0, .string ⟨#[]⟩, .slice (some ⟨β, 0, none⟩) 4 c, .slice none 0 0]] w fun e w' => e = .returned (.bool true) ∧ Below w.heap.size w w' := by
  have HC := Lib.hid hparts
  have HP := Lib.hid hp
  clear hparts hp
  obtain ⟨W, hW⟩ : ∃ W, W = w.alloc (Obj.cells #[Value.int IntKind.i64 2, Value.int IntKind.i64 0, Value.string ⟨#[]⟩, Value.slice (some ⟨β, 0, none⟩) 4 c, Value.slice none 0 0] 29) := ⟨_, rfl⟩
  have hb : Below w.heap.size w W := by rw [hW]; exact (Below.refl w.heap.size w).alloc (Nat.le_refl _) _
  have HW := Lib.hid hW
  have HB := Lib.hid hb
  clear hW hb
  go_enter Tryz.func29, Tryz.ntmps29
  go_wp2_with fail
  rw [← HW.out]
  refine (HC.out _ (HP.out.below HB.out)).mono ?_
  rintro e w2 ⟨rfl, hb2⟩
  have hbb := HB.out.trans (hb2.mono HB.out.size)
  clear hb2 HC HP HW HB
  go_wp2_with fail
  go_ret
  exact ⟨rfl, hbb⟩
/-- The document's walk over four parts. -/
theorem mayParts4 (s t : ByteArray) (β c : Nat) (w : World) (hp : PtsAt w β 0 s t) (hs : s.toList.isEmpty = false) (ht : t.toList.isEmpty = false) (hss : s.size ≤ 9223372036854775807) (hts : t.size ≤ 9223372036854775807)
    (hps : ∀ i, i < s.size → 32 ≤ bt s i) (hpt : ∀ i, i < t.size → 32 ≤ bt t i)
    (hrn : ∀ W, Calls Tryz.prog 13 #[.string ⟨#[118, 97, 114, 46, 110]⟩] W fun e w' => e = .returned (.bool true) ∧ w' = W) (hrb : ∀ W, Calls Tryz.prog 13 #[.string ⟨#[118, 97, 114, 46, 98]⟩] W fun e w' => e = .returned (.bool true) ∧ w' = W) :
    Calls Tryz.prog 53 #[.slice (some ⟨β, 0, none⟩) 4 c] w fun e w' => e = .returned (.bool true) ∧ w' = w := by
  have HS := Lib.hid hps
  have HT := Lib.hid hpt
  have HN := Lib.hid hrn
  have HB := Lib.hid hrb
  clear hps hpt hrn hrb
  obtain ⟨c0, c1, c2, c3, c4, c5, c6, c7⟩ := hp
  go_enter Tryz.func53, Tryz.ntmps53
  go_wp2_with fail
  refine wp_loop_rounds 5 ?_
  rw [rounds_succ]
  go_wp2_with fail
  go_loopw [4] (fun iv wr => ∃ i : Nat, i ≤ s.size ∧ iv = .int .i64 i ∧ wr = w) (fun iv _ => s.size - (intOf iv).toNat)
  case atStart => exact ⟨0, by omega, rfl, rfl⟩
  case round =>
    obtain ⟨i, hi, rfl, hw⟩ := hrel
    subst hw
    by_cases hlt : i < s.size
    · have hbi := bt_at hlt
      have hlt' : (i : Int) < s.size := by omega
      have h32 := HS.out i hlt
      have h32' : ¬ bt s i < 32 := by omega
      go_wp2_with fail
      go_roundw
      case rel => exact ⟨i + 1, by omega, by go_num, by simp⟩
      case measure => simp [intOf]; omega
    · obtain rfl : i = s.size := by omega
      go_wp2_with fail
      rw [rounds_succ]
      go_wp2_with fail
      refine (HN.out _).mono ?_
      rintro e w2 ⟨rfl, hw⟩
      subst hw
      clear HS HN
      go_wp2_with fail
      rw [rounds_succ]
      go_wp2_with fail
      go_loopw [4] (fun iv wr => ∃ i : Nat, i ≤ t.size ∧ iv = .int .i64 i ∧ wr = w2) (fun iv _ => t.size - (intOf iv).toNat)
      case atStart => exact ⟨0, by omega, rfl, rfl⟩
      case round =>
        obtain ⟨i, hi, rfl, hw⟩ := hrel
        subst hw
        by_cases hlt : i < t.size
        · have hbi := bt_at hlt
          have hlt' : (i : Int) < t.size := by omega
          have h32 := HT.out i hlt
          have h32' : ¬ bt t i < 32 := by omega
          go_wp2_with fail
          go_roundw
          case rel => exact ⟨i + 1, by omega, by go_num, by simp⟩
          case measure => simp [intOf]; omega
        · obtain rfl : i = t.size := by omega
          go_wp2_with fail
          rw [rounds_succ]
          go_wp2_with fail
          refine (HB.out _).mono ?_
          rintro e w3 ⟨rfl, hw⟩
          subst hw
          clear HB HT
          go_wp2_with fail
          rw [rounds_succ]
          go_wp2_with fail
          go_ret
          exact ⟨rfl, rfl⟩
end Go.Proofs.YteopodohghnokaaGreatDoor
