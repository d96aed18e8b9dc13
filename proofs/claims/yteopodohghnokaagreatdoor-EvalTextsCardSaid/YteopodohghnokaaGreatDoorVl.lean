/- One node that is a name: is it a leaf, by the document: the walk. -/
import Derived.Test.YteopodohghnokaaGreatDoorVk
namespace Go.Proofs.YteopodohghnokaaGreatDoor
open Go Go.Proofs Go.RowKit
set_option maxRecDepth 100000
set_option linter.unusedSimpArgs false
set_option linter.unusedVariables false
set_option maxHeartbeats 2000000

theorem leaf4 (name : ByteArray) (hs : name.size ≤ 9223372036854775807) (w : World) :
    Calls Tryz.prog 29 #[.agg #[.int .i64 4, .int .i64 0, .string name, .slice none 0 0, .slice none 0 0]] w fun e w' => e = .returned (.bool (dotP name && !truthP (name.extract 0 (endF name)))) ∧ Below w.heap.size w w' := by
  have HE := Lib.hid (fun W => end_any name W hs)
  have HD := Lib.hid (fun W => dotted_any name hs W)
  have hle := endF_le name
  have h1 : (0 : Int) ≤ (endF name : Nat) := by omega
  have h2 : ((endF name : Nat) : Int) ≤ name.size := by omega
  obtain ⟨W, hW⟩ : ∃ W, W = w.alloc (Obj.cells #[Value.int IntKind.i64 4, Value.int IntKind.i64 0, Value.string name, Value.slice none 0 0, Value.slice none 0 0] 29) := ⟨_, rfl⟩
  have hb : Below w.heap.size w W := by rw [hW]; exact (Below.refl w.heap.size w).alloc (Nat.le_refl _) _
  have k : W.heap[w.heap.size]? = some (.cells #[Value.int IntKind.i64 4, Value.int IntKind.i64 0, Value.string name, Value.slice none 0 0, Value.slice none 0 0] 29) := by rw [hW]; exact bk_new _ _
  have HB := Lib.hid hb
  have K := Lib.hid k
  have HW := Lib.hid hW
  clear hb k hW
  go_enter Tryz.func29, Tryz.ntmps29
  go_wp2_with fail
  rw [← HW.out]
  have r2 : W.cell? ⟨w.heap.size, 2, none⟩ = some (.string name) := (bk_cell K.out 2).trans rfl
  have hlt : w.heap.size < W.heap.size := bk_lt K.out
  clear HW
  refine region_lay (by kernel_rfl) (by kernel_rfl) ?_
  repeat (go_big_quiet_step (first | (go_at_call 26; exact Calls.lay_of ((HE.out _).mono fun e w' ⟨he, hw⟩ => ⟨he, by rw [hw]; exact Below.refl _ _⟩))))
  refine wpQuiet_nil ?_
  rintro _ ⟨zq, rfl⟩
  have hbz := HB.out.trans ((W.lay_below zq).mono HB.out.size)
  have kz := bk_below K.out (W.lay_below zq)
  generalize W.lay zq = W2 at *
  have z2 : W2.cell? ⟨w.heap.size, 2, none⟩ = some (.string name) := (bk_cell kz 2).trans rfl
  clear r2 hlt K HB kz HE
  go_wp2_with fail
  refine (HD.out _).mono ?_
  rintro e w3 ⟨rfl, hw⟩
  subst hw
  obtain ⟨A, hA⟩ : ∃ A, name.extract 0 (endF name) = A := ⟨_, rfl⟩
  obtain ⟨d, hd⟩ : ∃ d, dotP name = d := ⟨_, rfl⟩
  obtain ⟨a, ha⟩ : ∃ a, (A.toList == [116, 114, 117, 101]) = a := ⟨_, rfl⟩
  have HR := Lib.hid (show (dotP name && !truthP (name.extract 0 (endF name))) = (d && !(a || A.toList == [102, 97, 108, 115, 101])) by rw [hd, hA]; unfold truthP; rw [ha])
  rw [hd, hA]
  clear hd hA
  cases d
  · go_wp2_with fail
    go_ret
    exact ⟨by rw [HR.out]; rfl, hbz⟩
  · cases a
    · go_wp2_with fail
      go_ret
      exact ⟨by rw [HR.out]; simp, hbz⟩
    · go_wp2_with fail
      go_ret
      exact ⟨by rw [HR.out]; simp, hbz⟩
end Go.Proofs.YteopodohghnokaaGreatDoor
