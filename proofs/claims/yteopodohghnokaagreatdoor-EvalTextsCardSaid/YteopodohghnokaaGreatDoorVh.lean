/- One node that is a name: is it plain, is it a leaf: the walks. -/
import Derived.Test.YteopodohghnokaaGreatDoorVa
import Derived.Test.YteopodohghnokaaGreatDoorXh0
import Derived.BigQuiet
namespace Go.Proofs.YteopodohghnokaaGreatDoor
open Go Go.Proofs Go.RowKit
set_option maxRecDepth 100000
set_option linter.unusedSimpArgs false
set_option linter.unusedVariables false
set_option maxHeartbeats 2000000

def truthP (s : ByteArray) : Bool := s.toList == [116, 114, 117, 101] || s.toList == [102, 97, 108, 115, 101]
theorem truth_any (s : ByteArray) (w : World) : Calls Tryz.prog 107 #[.string s] w fun e w' => e = .returned (.bool (truthP s)) ∧ w' = w := by
  go_enter Tryz.func107, Tryz.ntmps107
  obtain ⟨t, ht⟩ : ∃ t, (s.toList == [116, 114, 117, 101]) = t := ⟨_, rfl⟩
  cases t
  · go_wp2_with fail
    go_ret
    exact ⟨by unfold truthP; rw [ht]; rfl, rfl⟩
  · go_wp2_with fail
    go_ret
    exact ⟨by unfold truthP; rw [ht]; rfl, rfl⟩

theorem below_drewN (w : World) : ∀ (n : Nat), Below w.heap.size w (w.drewN n)
  | 0 => Below.refl _ _
  | n + 1 => (below_drewN w n).drew
theorem plain4 (name A B : ByteArray) (F R : Bool) (hcut : ∀ W, Calls Tryz.prog 105 #[.string name, .string ⟨#[46]⟩] W fun e w' => e = .returned (.tuple #[.string A, .string B, .bool F]) ∧ Below W.heap.size W w')
    (href : ∀ W, Calls Tryz.prog 106 #[.string name] W fun e w' => e = .returned (.bool R) ∧ Below W.heap.size W w') (w : World) :
    Calls Tryz.prog 78 #[.agg #[.int .i64 4, .int .i64 0, .string name, .slice none 0 0, .slice none 0 0]] w fun e w' => e = .returned (.bool (R && !truthP A)) ∧ Below w.heap.size w w' := by
  have HC := Lib.hid hcut
  have HR := Lib.hid href
  clear hcut href
  go_enter Tryz.func78, Tryz.ntmps78
  go_wp2_with fail
  go_quiet (fail)
  obtain ⟨W, hW⟩ : ∃ W, W = (w.alloc (Obj.cells #[Value.int IntKind.i64 4, Value.int IntKind.i64 0, Value.string name, Value.slice none 0 0, Value.slice none 0 0] 29)).drewN nq := ⟨_, rfl⟩
  have hb : Below w.heap.size w W := by rw [hW]; exact ((Below.refl w.heap.size w).alloc (Nat.le_refl _) _).trans ((below_drewN _ nq).mono (by simp))
  have k : W.heap[w.heap.size]? = some (.cells #[Value.int IntKind.i64 4, Value.int IntKind.i64 0, Value.string name, Value.slice none 0 0, Value.slice none 0 0] 29) := by rw [hW]; exact bk_below (bk_new _ _) (below_drewN _ nq)
  have q0 : W.cell? ⟨w.heap.size, 0, none⟩ = some (.int .i64 4) := (bk_cell k 0).trans rfl
  have q2 : W.cell? ⟨w.heap.size, 2, none⟩ = some (.string name) := (bk_cell k 2).trans rfl
  rw [← hW]
  clear hW
  go_wp2_with fail
  refine (HC.out _).mono ?_
  rintro e w2 ⟨rfl, hb2⟩
  have hbb := hb.trans (hb2.mono hb.size)
  have k2 := bk_below k hb2
  have r2 : w2.cell? ⟨w.heap.size, 2, none⟩ = some (.string name) := (bk_cell k2 2).trans rfl
  clear hb hb2 k k2 q0 q2 HC
  go_wp2_with fail
  refine (HR.out _).mono ?_
  rintro e w3 ⟨rfl, hb3⟩
  have hbc := hbb.trans (hb3.mono hbb.size)
  clear hbb hb3 r2 HR
  cases R
  · go_wp2_with fail
    go_ret
    exact ⟨rfl, hbc⟩
  · go_wp2_with fail
    refine (truth_any A _).mono ?_
    rintro e w4 ⟨rfl, rfl⟩
    obtain ⟨t, ht⟩ : ∃ t, truthP A = t := ⟨_, rfl⟩
    rw [ht]
    cases t
    · go_wp2_with fail
      go_ret
      exact ⟨by rw [ht]; rfl, hbc⟩
    · go_wp2_with fail
      go_ret
      exact ⟨by rw [ht]; rfl, hbc⟩

theorem ref_any (name A B : ByteArray) (F NA NB : Bool) (hcut : ∀ W, Calls Tryz.prog 105 #[.string name, .string ⟨#[46]⟩] W fun e w' => e = .returned (.tuple #[.string A, .string B, .bool F]) ∧ Below W.heap.size W w')
    (ha : ∀ W, Calls Tryz.prog 108 #[.string A] W fun e w' => e = .returned (.bool NA) ∧ Below W.heap.size W w') (hb : ∀ W, Calls Tryz.prog 108 #[.string B] W fun e w' => e = .returned (.bool NB) ∧ Below W.heap.size W w') (w : World) :
    Calls Tryz.prog 106 #[.string name] w fun e w' => e = .returned (.bool (F && NA && NB)) ∧ Below w.heap.size w w' := by
  have HC := Lib.hid hcut
  have HA := Lib.hid ha
  have HB := Lib.hid hb
  clear hcut ha hb
  go_enter Tryz.func106, Tryz.ntmps106
  go_wp2_with fail
  refine (HC.out _).mono ?_
  rintro e w2 ⟨rfl, hb2⟩
  cases F
  · go_wp2_with fail
    go_ret
    exact ⟨rfl, hb2⟩
  · go_wp2_with fail
    refine (HA.out _).mono ?_
    rintro e w3 ⟨rfl, hb3⟩
    have hbb := hb2.trans (hb3.mono hb2.size)
    cases NA
    · go_wp2_with fail
      go_ret
      exact ⟨rfl, hbb⟩
    · go_wp2_with fail
      refine (HB.out _).mono ?_
      rintro e w4 ⟨rfl, hb4⟩
      have hbc := hbb.trans (hb4.mono hbb.size)
      cases NB
      · go_wp2_with fail
        go_ret
        exact ⟨rfl, hbc⟩
      · go_wp2_with fail
        go_ret
        exact ⟨rfl, hbc⟩
end Go.Proofs.YteopodohghnokaaGreatDoor
