/- Where an expression begins that is one node: the walk. -/
import Derived.Test.YteopodohghnokaaGreatDoorVb
import Derived.RangeFuncFrom
import Derived.RangeFuncNested
import Derived.RangeFuncCalls
import Derived.RangeFuncLeaves
import Derived.RangeFuncBox
import Derived.Shelf.Abstract
import Derived.Shelf.RegionOpen
import Derived.OwnWalkIn
import Derived.TacticsInMore
import Derived.LoopNIn
import Derived.LoopIn
namespace Go.Proofs.YteopodohghnokaaGreatDoor
open Go Go.Proofs Go.RowKit Go.Shelf
set_option maxRecDepth 100000
set_option linter.unusedSimpArgs false
set_option linter.unusedVariables false
set_option maxHeartbeats 2000000
attribute [local go_sem] Oper.semAt_some

theorem backward_any (A : Option Addr) (m c : Nat) (w : World) : Calls Tryz.prog 79 #[.slice A m c] w fun e w' => e = .returned (.func (.func 110) #[] #[.pointer (some ⟨w.heap.size, 0, none⟩)]) ∧ w' = w.alloc (.cells #[.slice A m c] 27) := by
  go_enter Tryz.func79, Tryz.ntmps79
  go_wp2
  go_ret
  exact ⟨rfl, rfl⟩
theorem back_none (n B : Nat) (A : Option Addr) (c : Nat) (w : World) (Kp : World → World → Prop) (h : w.cell? ⟨B, 0, none⟩ = some (.slice A 0 c)) :
    SeqStopsK (α := Empty) Fence.wide n Tryz.prog 110 #[.pointer (some ⟨B, 0, none⟩)] (fun x => nomatch x) Kp (fun _ => True) (fun _ => False) 0 w := by
  intro l J Jx W hW hJ hJx hY h0
  have hc := (hW.cell (p := ⟨B, 0, none⟩) (World.block_lt_of_cell? w _ h)).trans h
  refine callsIn_of_wp Tryz.func110 rfl trivial ?_ rfl
  simp only [Tryz.ntmps110, List.size_toArray, List.length_cons, List.length_nil, Nat.reduceAdd, Nat.reduceSub, Array.replicate_succ, Array.replicate_zero, List.push_toArray, List.append_toArray, List.nil_append, List.cons_append]
  gi_wp2
  gi_loopw [3] (fun p wr => p = .int .i64 (-1) ∧ wr = W) (fun _ _ => 0)
  case atStart => exact ⟨rfl, rfl⟩
  case round =>
    obtain ⟨rfl, rfl⟩ := hrel
    gi_wp2
    go_end0
    exact ⟨⟨_, rfl⟩, .inl ⟨[], trivial, h0⟩⟩

theorem begin_leaf (τ : Bool) (k n : Int) (x : ByteArray) (A3 A4 : Option Addr) (n3 c3 c4 β2 o2 c2 : Nat) (w : World) (hd : NdAt w β2 o2 k n x A3 A4 n3 c3 0 c4)
    (hkd : ∀ W, Calls Tryz.prog 77 #[.int .i64 k] W fun e w' => e = .returned (.int .i64 0) ∧ w' = W)
    (hp : ∀ W, Below w.heap.size w W → Calls Tryz.prog 78 #[.agg #[.int .i64 k, .int .i64 n, .string x, .slice A3 n3 c3, .slice A4 0 c4]] W fun e w' => e = .returned (.bool τ) ∧ Below W.heap.size W w') :
    Calls Tryz.prog 38 #[.slice (some ⟨β2, o2, none⟩) 1 c2, .int .i64 0] w fun e w' => e = .returned (.int .i64 (if τ then 0 else -1)) ∧ Below w.heap.size w w' := by
  refine (callsIn_wide (n := 3)).1 ?_
  obtain ⟨W, hW⟩ : ∃ W, W = (w.alloc (Obj.cells #[Value.slice (some ⟨β2, o2, none⟩) 1 c2] 24)).alloc (Obj.cells #[Value.int IntKind.i64 0] 3) := ⟨_, rfl⟩
  have hb : Below w.heap.size w W := by rw [hW]; exact ((Below.refl w.heap.size w).alloc (Nat.le_refl _) _).alloc (by simp) _
  have q := hd.below hb
  have HW := Lib.hid hW
  have HB := Lib.hid hb
  rw [hW] at q
  obtain ⟨q0, q1, q2, q3, q4⟩ := q
  have HP := Lib.hid hp
  have HK := Lib.hid hkd
  clear hd hb hW hp hkd
  refine callsIn_of_wp_marks Tryz.func38 rfl trivial ?_ rfl
  simp only [Tryz.ntmps38, List.size_toArray, List.length_cons, List.length_nil, Nat.reduceAdd, Nat.reduceSub, Array.replicate_succ, Array.replicate_zero, List.push_toArray, List.append_toArray, List.nil_append, List.cons_append]
  gi_wp2
  refine ⟨trivial, ?_⟩
  refine (callsIn_wide.2 (HK.out _)).mono ?_
  rintro e w' ⟨rfl, rfl⟩
  obtain ⟨W2, hW2⟩ : ∃ W2, W2 = W.alloc (Obj.cells #[Value.int IntKind.i64 k, Value.int IntKind.i64 n, Value.string x, Value.slice A3 n3 c3, Value.slice A4 0 c4] 29) := ⟨_, rfl⟩
  have hs : W.heap.size = w.heap.size + 1 + 1 := by rw [HW.out]; simp
  have hb2 : Below w.heap.size w W2 := by rw [hW2]; exact HB.out.alloc HB.out.size _
  have k1 : W2.heap[w.heap.size + 1]? = some (.cells #[Value.int IntKind.i64 0] 3) := by
    rw [hW2]
    refine bk_alloc ?_ _
    rw [HW.out]; have := bk_new (w.alloc (Obj.cells #[Value.slice (some ⟨β2, o2, none⟩) 1 c2] 24)) (Obj.cells #[Value.int IntKind.i64 0] 3); rw [World.size_alloc] at this; exact this
  have k2 : W2.heap[w.heap.size + 1 + 1]? = some (.cells #[Value.int IntKind.i64 k, Value.int IntKind.i64 n, Value.string x, Value.slice A3 n3 c3, Value.slice A4 0 c4] 29) := by
    rw [hW2, ← hs]; exact bk_new _ _
  rw [← HW.out, ← hW2]
  have r4 : W2.cell? ⟨w.heap.size + 1 + 1, 4, none⟩ = some (.slice A4 0 c4) := (bk_cell k2 4).trans rfl
  have r0 : W2.cell? ⟨w.heap.size + 1 + 1, 0, none⟩ = some (.int .i64 k) := (bk_cell k2 0).trans rfl
  have r1 : W2.cell? ⟨w.heap.size + 1 + 1, 1, none⟩ = some (.int .i64 n) := (bk_cell k2 1).trans rfl
  have r2 : W2.cell? ⟨w.heap.size + 1 + 1, 2, none⟩ = some (.string x) := (bk_cell k2 2).trans rfl
  have r3 : W2.cell? ⟨w.heap.size + 1 + 1, 3, none⟩ = some (.slice A3 n3 c3) := (bk_cell k2 3).trans rfl
  have HP2 := Lib.hid (HP.out W2 hb2)
  have HB2 := Lib.hid hb2
  have K1 := Lib.hid k1
  have K2 := Lib.hid k2
  clear q0 q1 q2 q3 q4 hW2 hb2 k1 k2 HW HP HK hs HB
  gi_wp2
  refine ⟨trivial, ?_⟩
  refine (callsIn_wide.2 HP2.out).mono ?_
  clear HP2
  rintro e w2 ⟨rfl, hb2⟩
  have hbb := HB2.out.trans (hb2.mono HB2.out.size)
  have g1 := bk_below K1.out hb2
  have g2 := bk_below K2.out hb2
  have s4 : w2.cell? ⟨w.heap.size + 1 + 1, 4, none⟩ = some (.slice A4 0 c4) := (bk_cell g2 4).trans rfl
  have d0 : w2.cell? ⟨w.heap.size + 1, 0, none⟩ = some (.int .i64 0) := (bk_cell g1 0).trans rfl
  have f0 : w2.frozen? ⟨w.heap.size + 1, 0, none⟩ = false := bk_frozen g1 0
  have HS := Lib.hid hbb.size
  have HSZ := Lib.hid (bk_lt g2)
  clear r0 r1 r2 r3 r4 hb2 K1 K2 g2 HB2
  cases τ
  · gi_wp2
    exact ⟨.int .i64 (-1), by simp [results, Tryz.results38, go_sem, d0], rfl, hbb.setCell (p := ⟨w.heap.size + 1, 0, none⟩) (by simp only; omega) _⟩
  · have s5 := cell_alloc (.cells #[.int .i64 0] 3) s4
    gi_wp2
    refine ⟨trivial, ?_⟩
    refine (callsIn_wide.2 (backward_any A4 0 c4 _)).mono ?_
    rintro e w3 ⟨rfl, hw3⟩
    rw [World.size_alloc]
    have hb3 : Below w.heap.size w w3 := by rw [hw3]; exact (hbb.alloc hbb.size _).alloc (by simp; have := HS.out; omega) _
    have hsz3 : w3.heap.size = w2.heap.size + 1 + 1 := by rw [hw3]; simp
    have e0 : w3.cell? ⟨w2.heap.size + 1, 0, none⟩ = some (.slice A4 0 c4) := by
      rw [hw3]; have := bk_new (w2.alloc (.cells #[.int .i64 0] 3)) (.cells #[.slice A4 0 c4] 27); rw [World.size_alloc] at this; exact (bk_cell this 0).trans rfl
    have e1 : w3.cell? ⟨w2.heap.size, 0, none⟩ = some (.int .i64 0) := by
      rw [hw3]; exact cell_alloc _ ((bk_cell (bk_new w2 (.cells #[.int .i64 0] 3)) 0).trans rfl)
    have e2 : w3.heap[w.heap.size + 1]? = some (.cells #[Value.int IntKind.i64 0] 3) := by
      rw [hw3]; exact bk_alloc (bk_alloc g1 _) _
    have e3 : w3.cell? ⟨w.heap.size + 1, 0, none⟩ = some (.int .i64 0) := (bk_cell e2 0).trans rfl
    have e4 : w3.frozen? ⟨w.heap.size + 1, 0, none⟩ = false := bk_frozen e2 0
    clear hw3 e2 g1 s4 s5 d0 f0
    gi_wp2
    refine wpIn_rangeFunc_ownF (α := Empty) rfl (by omega) (gf := 110) (lb := #[.pointer (some ⟨w2.heap.size + 1, 0, none⟩)]) rfl trivial (enters_of Tryz.func110 (by kernel_rfl) rfl)
      (back_none 2 (w2.heap.size + 1) A4 c4 w3 (fun _ _ => True) e0) (fun _ _ => trivial) (fun _ _ _ _ _ _ _ _ => trivial) (Below.refl _ _) (fun x => nomatch x)
      (fun pre W => (W.cell? ⟨w2.heap.size, 0, none⟩ = some (.int .i64 0) ∧ W.cell? ⟨w.heap.size + 1, 0, none⟩ = some (.int .i64 0) ∧ W.frozen? ⟨w.heap.size + 1, 0, none⟩ = false) ∧ Below w.heap.size w W)
      (fun _ _ _ => False)
      (OwnFrom.and (Own.from (fun s A B row hs hg hr => ⟨cell_kept hs.1 hg hr, cell_kept hs.2.1 hg hr, (frozen_kept hs.2.1 hg hr).trans hs.2.2⟩) _) (ownFrom_below (Nat.le_refl _) hb3.size))
      (fun _ _ _ _ _ hs _ _ => hs)
      ⟨⟨e1, e3, e4⟩, hb3⟩
      (fun x => nomatch x) ?assign ?body ?done ?stop
    case assign => intro l x; exact nomatch x
    case body => intro l pre x; exact nomatch x
    case done =>
      rintro D ys W hD _ ⟨⟨h1, h2, h3⟩, h4⟩ hK
      gi_wp2
      have hK' := (KeepsOthers.setCell W ⟨w.heap.size + 1, 0, none⟩ (.int .i64 0)).same D _ hK rfl
      have h5 : (W.setCell ⟨w.heap.size + 1, 0, none⟩ (.int .i64 0)).cell? ⟨w.heap.size + 1, 0, none⟩ = some (.int .i64 0) := World.cell?_setCell_same' _ _ _ (by rw [h2]; rfl)
      have h6 := cell_kept h5 (grownBy_putObj' _ D (.deferred none)) (fun r e => by cases e; exact ⟨_, hK', rfl⟩)
      refine ⟨by simp, .inl ⟨_, _, rfl, run_takeDeferred hK', ?_⟩⟩
      exact ⟨.int .i64 0, by simp [results, Tryz.results38, go_sem, h6], rfl, (h4.setCell (p := ⟨w.heap.size + 1, 0, none⟩) (by simp only; omega) _).trans (belowK_b (w := w) (Nat.le_refl _) _ D _ _ (by have := hb3.size; omega) hK' rfl rfl)⟩
    case stop =>
      rintro D c pre W _ _ h _
      exact h.elim
end Go.Proofs.YteopodohghnokaaGreatDoor
