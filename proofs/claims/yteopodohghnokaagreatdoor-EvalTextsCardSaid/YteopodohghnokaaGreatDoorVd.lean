/- An expression of one node: the walks. -/
import Derived.Test.YteopodohghnokaaGreatDoorVc
namespace Go.Proofs.YteopodohghnokaaGreatDoor
open Go Go.Proofs Go.RowKit Go.Shelf
set_option maxRecDepth 100000
set_option linter.unusedSimpArgs false
set_option linter.unusedVariables false
set_option maxHeartbeats 2000000

theorem tree_one (τ : Bool) (k n : Int) (x : ByteArray) (A3 A4 : Option Addr) (n3 c3 c4 β2 o2 c2 : Nat) (w : World) (hd : NdAt w β2 o2 k n x A3 A4 n3 c3 0 c4)
    (hkd : ∀ W, Calls Tryz.prog 77 #[.int .i64 k] W fun e w' => e = .returned (.int .i64 0) ∧ w' = W)
    (hp : ∀ W, Below w.heap.size w W → Calls Tryz.prog 78 #[.agg #[.int .i64 k, .int .i64 n, .string x, .slice A3 n3 c3, .slice A4 0 c4]] W fun e w' => e = .returned (.bool τ) ∧ Below W.heap.size W w') :
    Calls Tryz.prog 24 #[.slice (some ⟨β2, o2, none⟩) 1 c2] w fun e w' => e = .returned (.bool τ) ∧ Below w.heap.size w w' := by
  have HB := Lib.hid (begin_leaf τ k n x A3 A4 n3 c3 c4 β2 o2 c2 w hd hkd hp)
  clear hd hkd hp
  go_enter Tryz.func24, Tryz.ntmps24
  go_wp2_with fail
  refine HB.out.mono ?_
  rintro e w2 ⟨rfl, hb⟩
  cases τ
  · go_wp2_with fail
    go_ret
    exact ⟨rfl, hb⟩
  · go_wp2_with fail
    go_ret
    exact ⟨rfl, hb⟩

theorem bind_any (s : ByteArray) (n : Int) (w : World) : Calls Tryz.prog 14 #[.string s, .int .i64 n] w fun e w' => e = .returned (.agg #[.string s, .int .i64 1, .int .i64 n, .string ⟨#[]⟩, .slice none 0 0]) ∧ Below w.heap.size w w' := by
  go_enter Tryz.func14, Tryz.ntmps14
  go_wp2_with fail
  refine bodyPost_ret (v := .agg #[.string s, .int .i64 1, .int .i64 n, .string ⟨#[]⟩, .slice none 0 0]) (by simp [results, Tryz.results14, go_sem]) rfl ⟨rfl, ?_⟩
  exact (Below.refl w.heap.size w).alloc (Nat.le_refl _) _
theorem num_any (n : Int) (w : World) : Calls Tryz.prog 12 #[.int .i64 n] w fun e w' => e = .returned (.int .i64 n) ∧ w' = w := by
  go_enter Tryz.func12, Tryz.ntmps12
  go_wp2
  go_ret
  exact ⟨rfl, rfl⟩

/-- What a name as an expression is worth. -/
def exprF (τ : Bool) (x : ByteArray) (l : List Bd) : Value := if τ then worth x l else .tuple #[.agg #[.int .i64 0, .int .i64 0, .string ⟨#[]⟩, .slice none 0 0], .int .i64 1]
theorem expr_ref (τ : Bool) (l : List Bd) (x : ByteArray) (β o cap β2 o2 c2 n3 c3 c4 : Nat) (num : Int) (A3 A4 : Option Addr) (w : World) (hl : BdsAt w β o l) (hn : l.length ≤ 1000) (hd : NdAt w β2 o2 4 num x A3 A4 n3 c3 0 c4)
    (hkd : ∀ W, Calls Tryz.prog 77 #[.int .i64 4] W fun e w' => e = .returned (.int .i64 0) ∧ w' = W)
    (hp : ∀ W, Below w.heap.size w W → Calls Tryz.prog 78 #[.agg #[.int .i64 4, .int .i64 num, .string x, .slice A3 n3 c3, .slice A4 0 c4]] W fun e w' => e = .returned (.bool τ) ∧ Below W.heap.size W w') :
    Calls Tryz.prog 10 #[.slice (some ⟨β2, o2, none⟩) 1 c2, .slice (some ⟨β, o, none⟩) l.length cap] w fun e w' => e = .returned (exprF τ x l) ∧ Below w.heap.size w w' := by
  obtain ⟨W, hW⟩ : ∃ W, W = w.alloc (Obj.cells #[Value.int IntKind.i64 0, Value.int IntKind.i64 0, Value.string ⟨#[]⟩, Value.slice none 0 0] 33) := ⟨_, rfl⟩
  have hb : Below w.heap.size w W := by rw [hW]; exact (Below.refl w.heap.size w).alloc (Nat.le_refl _) _
  have k1 : W.heap[w.heap.size]? = some (.cells #[Value.int IntKind.i64 0, Value.int IntKind.i64 0, Value.string ⟨#[]⟩, Value.slice none 0 0] 33) := by rw [hW]; exact bk_new _ _
  have HT := Lib.hid (tree_one τ 4 num x A3 A4 n3 c3 c4 β2 o2 c2 W (hd.below hb) hkd (fun W2 h => hp W2 (hb.trans (h.mono hb.size))))
  have HL := Lib.hid (hl.below hb)
  have HD := Lib.hid (hd.below hb)
  have HB := Lib.hid hb
  have K1 := Lib.hid k1
  have HW := Lib.hid hW
  clear hl hd hkd hp hb k1 hW
  go_enter Tryz.func10, Tryz.ntmps10
  go_wp2_with fail
  rw [← HW.out]
  refine HT.out.mono ?_
  clear HT HW
  rintro e w2 ⟨rfl, hb2⟩
  have g1 := bk_below K1.out hb2
  have hbb := HB.out.trans (hb2.mono HB.out.size)
  have HL2 := Lib.hid (HL.out.below hb2)
  have HD2 := Lib.hid (HD.out.below hb2)
  have HS := Lib.hid hbb.size
  clear K1 HL HD HB hb2
  cases τ
  · have d0 : w2.cell? ⟨w.heap.size, 0, none⟩ = some (.int .i64 0) := (bk_cell g1 0).trans rfl
    have d1 : w2.cell? ⟨w.heap.size, 1, none⟩ = some (.int .i64 0) := (bk_cell g1 1).trans rfl
    have d2 : w2.cell? ⟨w.heap.size, 2, none⟩ = some (.string ⟨#[]⟩) := (bk_cell g1 2).trans rfl
    have d3 : w2.cell? ⟨w.heap.size, 3, none⟩ = some (.slice none 0 0) := (bk_cell g1 3).trans rfl
    have f0 : w2.frozen? ⟨w.heap.size, 0, none⟩ = false := bk_frozen g1 0
    have f1 : w2.frozen? ⟨w.heap.size, 1, none⟩ = false := bk_frozen g1 1
    have f2 : w2.frozen? ⟨w.heap.size, 2, none⟩ = false := bk_frozen g1 2
    have f3 : w2.frozen? ⟨w.heap.size, 3, none⟩ = false := bk_frozen g1 3
    clear g1
    go_wp2_with fail
    refine bodyPost_ret (v := .tuple #[.agg #[.int .i64 0, .int .i64 0, .string ⟨#[]⟩, .slice none 0 0], .int .i64 1]) (by simp [results, Tryz.results10, go_sem, d0, d1, d2, d3]) rfl ⟨rfl, (((hbb.setCell (p := ⟨w.heap.size, 0, none⟩) (by simp only; omega) _).setCell (p := ⟨w.heap.size, 1, none⟩) (by simp only; omega) _).setCell (p := ⟨w.heap.size, 2, none⟩) (by simp only; omega) _).setCell (p := ⟨w.heap.size, 3, none⟩) (by simp only; omega) _⟩
  · go_wp2_with fail
    refine (node_ref l x β o cap β2 o2 c2 n3 c3 0 c4 num A3 A4 w2 HL2.out hn HD2.out).mono ?_
    rintro e w3 ⟨rfl, hb3⟩
    have g3 := bk_below g1 hb3
    have hbc := hbb.trans (hb3.mono hbb.size)
    clear hb3 hbb g1
    have d0 : w3.cell? ⟨w.heap.size, 0, none⟩ = some (.int .i64 0) := (bk_cell g3 0).trans rfl
    have d1 : w3.cell? ⟨w.heap.size, 1, none⟩ = some (.int .i64 0) := (bk_cell g3 1).trans rfl
    have d2 : w3.cell? ⟨w.heap.size, 2, none⟩ = some (.string ⟨#[]⟩) := (bk_cell g3 2).trans rfl
    have d3 : w3.cell? ⟨w.heap.size, 3, none⟩ = some (.slice none 0 0) := (bk_cell g3 3).trans rfl
    have f0 : w3.frozen? ⟨w.heap.size, 0, none⟩ = false := bk_frozen g3 0
    have f1 : w3.frozen? ⟨w.heap.size, 1, none⟩ = false := bk_frozen g3 1
    have f2 : w3.frozen? ⟨w.heap.size, 2, none⟩ = false := bk_frozen g3 2
    have f3 : w3.frozen? ⟨w.heap.size, 3, none⟩ = false := bk_frozen g3 3
    clear g3
    have hx : exprF true x l = worth x l := rfl
    obtain ⟨k, n, s, A, m, c, er, hw⟩ := worth_shape x l
    rw [hw]
    rw [hw] at hx
    go_wp2_with fail
    refine bodyPost_ret (v := .tuple #[.agg #[.int .i64 k, .int .i64 n, .string s, .slice A m c], .int .i64 er]) (by simp [results, Tryz.results10, go_sem, d0, d1, d2, d3]) rfl ⟨by rw [hx], (((hbc.setCell (p := ⟨w.heap.size, 0, none⟩) (by simp only; omega) _).setCell (p := ⟨w.heap.size, 1, none⟩) (by simp only; omega) _).setCell (p := ⟨w.heap.size, 2, none⟩) (by simp only; omega) _).setCell (p := ⟨w.heap.size, 3, none⟩) (by simp only; omega) _⟩
end Go.Proofs.YteopodohghnokaaGreatDoor
