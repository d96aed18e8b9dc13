/- A name as an expression of one node: the walk. -/
import Derived.Test.YteopodohghnokaaGreatDoorVa
namespace Go.Proofs.YteopodohghnokaaGreatDoor
open Go Go.Proofs Go.RowKit
set_option maxRecDepth 100000
set_option linter.unusedSimpArgs false
set_option linter.unusedVariables false
set_option maxHeartbeats 1000000

theorem worth_shape (x : ByteArray) (l : List Bd) : ∃ (k n : Int) (s : ByteArray) (A : Option Addr) (m c : Nat) (e : Int), worth x l = .tuple #[.agg #[.int .i64 k, .int .i64 n, .string s, .slice A m c], .int .i64 e] := by
  unfold worth
  split
  · exact ⟨_, _, _, _, _, _, _, rfl⟩
  · exact ⟨0, 0, ⟨#[]⟩, none, 0, 0, 2, rfl⟩
/-- A node: where it lies. -/
structure NdAt (w : World) (β p : Nat) (k n : Int) (x : ByteArray) (A3 A4 : Option Addr) (n3 c3 n4 c4 : Nat) : Prop where
  c0 : w.cell? ⟨β, p, none⟩ = some (.int .i64 k)
  c1 : w.cell? ⟨β, p + 1, none⟩ = some (.int .i64 n)
  c2 : w.cell? ⟨β, p + 2, none⟩ = some (.string x)
  c3 : w.cell? ⟨β, p + 3, none⟩ = some (.slice A3 n3 c3)
  c4 : w.cell? ⟨β, p + 4, none⟩ = some (.slice A4 n4 c4)
theorem NdAt.below {w w' : World} {β p : Nat} {k n : Int} {x : ByteArray} {A3 A4 : Option Addr} {n3 c3 n4 c4 : Nat} (h : NdAt w β p k n x A3 A4 n3 c3 n4 c4) (hb : Below w.heap.size w w') : NdAt w' β p k n x A3 A4 n3 c3 n4 c4 :=
  ⟨cell_below hb h.c0, cell_below hb h.c1, cell_below hb h.c2, cell_below hb h.c3, cell_below hb h.c4⟩

theorem node_ref (l : List Bd) (x : ByteArray) (β o cap β2 o2 c2 n3 c3 n4 c4 : Nat) (num : Int) (A3 A4 : Option Addr) (w : World) (hl : BdsAt w β o l) (hn : l.length ≤ 1000) (hd : NdAt w β2 o2 4 num x A3 A4 n3 c3 n4 c4) :
    Calls Tryz.prog 25 #[.agg #[.slice (some ⟨β, o, none⟩) l.length cap, .slice (some ⟨β2, o2, none⟩) 1 c2], .int .i64 0] w fun e w' => e = .returned (worth x l) ∧ Below w.heap.size w w' := by
  obtain ⟨W, hW⟩ : ∃ W, W = (w.alloc (Obj.cells #[Value.slice (some ⟨β, o, none⟩) l.length cap, Value.slice (some ⟨β2, o2, none⟩) 1 c2] 70)).alloc (Obj.cells #[Value.int IntKind.i64 0, Value.int IntKind.i64 0, Value.string ⟨#[]⟩, Value.slice none 0 0] 33) := ⟨_, rfl⟩
  have hb : Below w.heap.size w W := by rw [hW]; exact ((Below.refl w.heap.size w).alloc (Nat.le_refl _) _).alloc (by simp) _
  have hs : W.heap.size = w.heap.size + 1 + 1 := by rw [hW]; simp
  have k1 : W.heap[w.heap.size]? = some (.cells #[Value.slice (some ⟨β, o, none⟩) l.length cap, Value.slice (some ⟨β2, o2, none⟩) 1 c2] 70) := by rw [hW]; exact bk_alloc (bk_new _ _) _
  have k2 : W.heap[w.heap.size + 1]? = some (.cells #[Value.int IntKind.i64 0, Value.int IntKind.i64 0, Value.string ⟨#[]⟩, Value.slice none 0 0] 33) := by
    rw [hW]; have := bk_new (w.alloc (Obj.cells #[Value.slice (some ⟨β, o, none⟩) l.length cap, Value.slice (some ⟨β2, o2, none⟩) 1 c2] 70)) (Obj.cells #[Value.int IntKind.i64 0, Value.int IntKind.i64 0, Value.string ⟨#[]⟩, Value.slice none 0 0] 33); rw [World.size_alloc] at this; exact this
  have q := hd.below hb
  have hlW := Lib.hid (hl.below hb)
  have HB := Lib.hid hb
  have K1 := Lib.hid k1
  have K2 := Lib.hid k2
  have HW := Lib.hid hW
  rw [hW] at q
  obtain ⟨q0, q1, q2, q3, q4⟩ := q
  clear hl hb k1 k2 hd hW
  go_enter Tryz.func25, Tryz.ntmps25
  go_wp2_with fail
  rw [← HW.out]
  obtain ⟨W2, hW2⟩ : ∃ W2, W2 = W.alloc (Obj.cells #[Value.int IntKind.i64 4, Value.int IntKind.i64 num, Value.string x, Value.slice A3 n3 c3, Value.slice A4 n4 c4] 29) := ⟨_, rfl⟩
  have hB2 : Below W.heap.size W W2 := by rw [hW2]; exact (Below.refl _ _).alloc (Nat.le_refl _) _
  rw [← hW2]
  clear hW2 HW q0 q1 q2 q3 q4
  refine (value_any l x β o cap W2 (hlW.out.below hB2) hn).mono ?_
  rintro e w2 ⟨rfl, hb2⟩
  have hb3 := hB2.trans (hb2.mono hB2.size)
  have g3 := bk_below K2.out hb3
  have hbb := HB.out.trans (hb3.mono HB.out.size)
  have HS := Lib.hid HB.out.size
  clear hb2 hb3 hB2 hlW K1 K2
  have d0 : w2.cell? ⟨w.heap.size + 1, 0, none⟩ = some (.int .i64 0) := (bk_cell g3 0).trans rfl
  have d1 : w2.cell? ⟨w.heap.size + 1, 1, none⟩ = some (.int .i64 0) := (bk_cell g3 1).trans rfl
  have d2 : w2.cell? ⟨w.heap.size + 1, 2, none⟩ = some (.string ⟨#[]⟩) := (bk_cell g3 2).trans rfl
  have d3 : w2.cell? ⟨w.heap.size + 1, 3, none⟩ = some (.slice none 0 0) := (bk_cell g3 3).trans rfl
  have f0 : w2.frozen? ⟨w.heap.size + 1, 0, none⟩ = false := bk_frozen g3 0
  have f1 : w2.frozen? ⟨w.heap.size + 1, 1, none⟩ = false := bk_frozen g3 1
  have f2 : w2.frozen? ⟨w.heap.size + 1, 2, none⟩ = false := bk_frozen g3 2
  have f3 : w2.frozen? ⟨w.heap.size + 1, 3, none⟩ = false := bk_frozen g3 3
  clear g3 hs
  obtain ⟨k, n, s, A, m, c, er, hw⟩ := worth_shape x l
  rw [hw]
  go_wp2_with fail
  refine bodyPost_ret (v := .tuple #[.agg #[.int .i64 k, .int .i64 n, .string s, .slice A m c], .int .i64 er]) (by simp [results, Tryz.results25, go_sem, d0, d1, d2, d3]) rfl ⟨by rw [hw], (((hbb.setCell (p := ⟨w.heap.size + 1, 0, none⟩) (by simp only; omega) _).setCell (p := ⟨w.heap.size + 1, 1, none⟩) (by simp only; omega) _).setCell (p := ⟨w.heap.size + 1, 2, none⟩) (by simp only; omega) _).setCell (p := ⟨w.heap.size + 1, 3, none⟩) (by simp only; omega) _⟩
end Go.Proofs.YteopodohghnokaaGreatDoor
