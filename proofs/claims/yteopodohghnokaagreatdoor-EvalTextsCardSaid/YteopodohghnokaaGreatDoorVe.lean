/- The document's word on one node: the walk. -/
import Derived.Test.YteopodohghnokaaGreatDoorVd
import Derived.Laws.OwnMore
import Derived.Deep.AppendLies
namespace Go.Proofs.YteopodohghnokaaGreatDoor
open Go Go.Proofs Go.RowKit Go.Shelf
set_option maxRecDepth 100000
set_option linter.unusedSimpArgs false
set_option linter.unusedVariables false
set_option maxHeartbeats 2000000

theorem info3 : (Tryz.prog.info? 3).map (fun i => (i.zero, i.size, i.bytes)) = some (some (.int .i64 0), 1, 8) := by kernel_rfl
theorem tree1_one (τ : Bool) (k n : Int) (x : ByteArray) (A3 A4 : Option Addr) (n3 c3 c4 β2 o2 c2 : Nat) (w : World) (hd : NdAt w β2 o2 k n x A3 A4 n3 c3 0 c4)
    (hkd : ∀ W, Calls Tryz.prog 28 #[.int .i64 k] W fun e w' => e = .returned (.int .i64 0) ∧ w' = W)
    (hp : ∀ W, Below w.heap.size w W → Calls Tryz.prog 29 #[.agg #[.int .i64 k, .int .i64 n, .string x, .slice A3 n3 c3, .slice A4 0 c4]] W fun e w' => e = .returned (.bool τ) ∧ Below W.heap.size W w') :
    Calls Tryz.prog 15 #[.slice (some ⟨β2, o2, none⟩) 1 c2] w fun e w' => e = .returned (.bool τ) ∧ Below w.heap.size w w' := by
  obtain ⟨i0, hi, hz0, hz1, hz2⟩ := info_parts info3
  have Hi := Lib.hid hi
  have Hz0 := Lib.hid hz0
  have Hz1 := Lib.hid hz1
  have Hz2 := Lib.hid hz2
  clear hi hz0 hz1 hz2
  obtain ⟨W, hW⟩ : ∃ W, W = w.alloc (Obj.cells #[Value.int IntKind.i64 k, Value.int IntKind.i64 n, Value.string x, Value.slice A3 n3 c3, Value.slice A4 0 c4] 29) := ⟨_, rfl⟩
  have hb : Below w.heap.size w W := by rw [hW]; exact (Below.refl w.heap.size w).alloc (Nat.le_refl _) _
  have k1 : W.heap[w.heap.size]? = some (.cells #[Value.int IntKind.i64 k, Value.int IntKind.i64 n, Value.string x, Value.slice A3 n3 c3, Value.slice A4 0 c4] 29) := by rw [hW]; exact bk_new _ _
  obtain ⟨q0, q1, q2, q3, q4⟩ := hd
  have HP := Lib.hid (hp W hb)
  have HK := Lib.hid hkd
  have HB := Lib.hid hb
  have K1 := Lib.hid k1
  have HW := Lib.hid hW
  clear hp hkd hb k1 hW
  go_enter Tryz.func15, Tryz.ntmps15
  go_wp2_with fail
  refine wp_loop_rounds 2 ?_
  rw [rounds_succ]
  go_wp2_with fail
  refine (HK.out _).mono ?_
  clear HK
  rintro e w' ⟨rfl, rfl⟩
  rw [← HW.out]
  have r4 : W.cell? ⟨w.heap.size, 4, none⟩ = some (.slice A4 0 c4) := (bk_cell K1.out 4).trans rfl
  have r0 : W.cell? ⟨w.heap.size, 0, none⟩ = some (.int .i64 k) := (bk_cell K1.out 0).trans rfl
  have r1 : W.cell? ⟨w.heap.size, 1, none⟩ = some (.int .i64 n) := (bk_cell K1.out 1).trans rfl
  have r2 : W.cell? ⟨w.heap.size, 2, none⟩ = some (.string x) := (bk_cell K1.out 2).trans rfl
  have r3 : W.cell? ⟨w.heap.size, 3, none⟩ = some (.slice A3 n3 c3) := (bk_cell K1.out 3).trans rfl
  clear HW q0 q1 q2 q3 q4
  go_wp2_with fail
  refine HP.out.mono ?_
  clear HP r0 r1 r2 r3 r4
  rintro e w2 ⟨rfl, hb2⟩
  have hbb := HB.out.trans (hb2.mono HB.out.size)
  have g1 := bk_below K1.out hb2
  have s4 : w2.cell? ⟨w.heap.size, 4, none⟩ = some (.slice A4 0 c4) := (bk_cell g1 4).trans rfl
  clear hb2 K1 HB
  cases τ
  · go_wp2_with fail
    go_ret
    exact ⟨rfl, hbb⟩
  · go_wp2_with fail
    refine wp_loop_rounds 2 ?_
    rw [rounds_succ]
    go_wp2_with fail
    rw [rounds_succ]
    go_wp2_with fail
    go_ret
    exact ⟨rfl, ((hbb.alloc hbb.size _).alloc (Nat.le_trans hbb.size (by simp)) _).drew⟩
end Go.Proofs.YteopodohghnokaaGreatDoor
