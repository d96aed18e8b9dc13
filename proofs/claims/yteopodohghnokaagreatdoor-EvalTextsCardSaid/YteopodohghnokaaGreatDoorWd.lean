/- Values as texts; texts joined: the walks. -/
import Derived.Test.YteopodohghnokaaGreatDoorWc
namespace Go.Proofs.YteopodohghnokaaGreatDoor
open Go Go.Proofs Go.RowKit
set_option maxRecDepth 100000
set_option linter.unusedSimpArgs false
set_option linter.unusedVariables false
set_option maxHeartbeats 2000000

theorem fbool_any (b : Bool) (w : World) : Calls Tryz.prog 112 #[.bool b] w fun e w' => e = .returned (.string (if b then ⟨#[116, 114, 117, 101]⟩ else ⟨#[102, 97, 108, 115, 101]⟩)) ∧ w' = w := by
  have H : ∀ W, Calls Tryz.prog 139 #[.bool b] W fun e w' => e = .returned (.string (if b then ⟨#[116, 114, 117, 101]⟩ else ⟨#[102, 97, 108, 115, 101]⟩)) ∧ w' = W := fun W => by
    go_enter Tryz.func139, Tryz.ntmps139
    cases b
    · go_wp2_with fail
      go_ret
      exact ⟨rfl, rfl⟩
    · go_wp2_with fail
      go_ret
      exact ⟨rfl, rfl⟩
  have HH := Lib.hid H
  clear H
  go_enter Tryz.func112, Tryz.ntmps112
  go_wp2_with fail
  refine (HH.out _).mono ?_
  rintro e w' ⟨rfl, hw⟩
  subst hw
  cases b
  · go_wp2_with fail
    go_ret
    exact ⟨rfl, rfl⟩
  · go_wp2_with fail
    go_ret
    exact ⟨rfl, rfl⟩
theorem textI (n : Int) (D : ByteArray) (w : World) (h : ∀ W, Below w.heap.size w W → Calls Tryz.prog 111 #[.int .i64 n] W fun e w' => e = .returned (.string D) ∧ Below W.heap.size W w') :
    Calls Tryz.prog 80 #[.agg #[.int .i64 1, .int .i64 n, .string ⟨#[]⟩, .slice none 0 0]] w fun e w' => e = .returned (.tuple #[.string D, .int .i64 0]) ∧ Below w.heap.size w w' := by
  have hb : Below w.heap.size w (w.alloc (.cells #[.int .i64 1, .int .i64 n, .string ⟨#[]⟩, .slice none 0 0] 33)) := (Below.refl _ _).alloc (Nat.le_refl _) _
  have HB := Lib.hid hb
  have HH := Lib.hid (h _ hb)
  clear h hb
  go_enter Tryz.func80, Tryz.ntmps80
  go_wp2_with fail
  refine HH.out.mono ?_
  clear HH
  rintro e w' ⟨rfl, hb2⟩
  have hbb := HB.out.trans (hb2.mono HB.out.size)
  clear hb2 HB
  go_wp2_with fail
  go_ret2
  exact ⟨rfl, hbb⟩
theorem textB (b : Bool) (w : World) :
    Calls Tryz.prog 80 #[.agg #[.int .i64 3, .int .i64 (if b then 1 else 0), .string ⟨#[]⟩, .slice none 0 0]] w fun e w' => e = .returned (.tuple #[.string (if b then ⟨#[116, 114, 117, 101]⟩ else ⟨#[102, 97, 108, 115, 101]⟩), .int .i64 0]) ∧ Below w.heap.size w w' := by
  have hb : Below w.heap.size w (w.alloc (.cells #[.int .i64 3, .int .i64 (if b then 1 else 0), .string ⟨#[]⟩, .slice none 0 0] 33)) := (Below.refl _ _).alloc (Nat.le_refl _) _
  have HB := Lib.hid hb
  clear hb
  have HF := Lib.hid (fun W => fbool_any b W)
  go_enter Tryz.func80, Tryz.ntmps80
  cases b
  · go_wp2_with fail
    refine (HF.out _).mono ?_
    rintro e w' ⟨rfl, hw⟩
    subst hw
    clear HF
    go_wp2_with fail
    go_ret2
    exact ⟨rfl, HB.out⟩
  · go_wp2_with fail
    refine (HF.out _).mono ?_
    rintro e w' ⟨rfl, hw⟩
    subst hw
    clear HF
    go_wp2_with fail
    go_ret2
    exact ⟨rfl, HB.out⟩
theorem textL (w : World) :
    Calls Tryz.prog 80 #[.agg #[.int .i64 4, .int .i64 0, .string ⟨#[]⟩, .slice none 0 0]] w fun e w' => e = .returned (.tuple #[.string ⟨#[]⟩, .int .i64 7]) ∧ Below w.heap.size w w' := by
  go_enter Tryz.func80, Tryz.ntmps80
  go_wp2_with fail
  go_ret2
  exact ⟨rfl, (Below.refl _ _).alloc (Nat.le_refl _) _⟩
theorem join4 (a b c d res : ByteArray) (w : World) (B : Nat) (v : Value) (ho : w.ownsRow B 9 1 v 4 [.string a, .string b, .string c, .string d]) (hs : a.size + b.size + c.size + d.size ≤ 400)
    (hj : ∀ W, Below w.heap.size w W → Calls Tryz.prog 113 #[v, .string ⟨#[]⟩] W fun e w' => e = .returned (.string res) ∧ Below W.heap.size W w') :
    Calls Tryz.prog 81 #[v] w fun e w' => e = .returned (.tuple #[.agg #[.int .i64 2, .int .i64 0, .string res, .slice none 0 0], .int .i64 0]) ∧ Below w.heap.size w w' := by
  obtain ⟨W, hW⟩ : ∃ W, W = w.alloc (Obj.cells #[Value.int IntKind.i64 0, Value.int IntKind.i64 0, Value.string ⟨#[]⟩, Value.slice none 0 0] 33) := ⟨_, rfl⟩
  have hb : Below w.heap.size w W := by rw [hW]; exact (Below.refl _ _).alloc (Nat.le_refl _) _
  have k : W.heap[w.heap.size]? = some (.cells #[Value.int IntKind.i64 0, Value.int IntKind.i64 0, Value.string ⟨#[]⟩, Value.slice none 0 0] 33) := by rw [hW]; exact bk_new _ _
  have ho2 := own_below ho hb
  rcases ho.2 with ⟨_, h⟩ | ⟨g, cap, cur, rfl, hB, _⟩
  · cases h
  have q0 : W.cell? ⟨g, 0, none⟩ = some (.string a) := (ho2.cellAt 0 (by simp)).trans rfl
  have q1 : W.cell? ⟨g, 1, none⟩ = some (.string b) := (ho2.cellAt 1 (by simp)).trans rfl
  have q2 : W.cell? ⟨g, 2, none⟩ = some (.string c) := (ho2.cellAt 2 (by simp)).trans rfl
  have q3 : W.cell? ⟨g, 3, none⟩ = some (.string d) := (ho2.cellAt 3 (by simp)).trans rfl
  have HB := Lib.hid hb
  have K := Lib.hid k
  have HJ := Lib.hid (hj W hb)
  have HW := Lib.hid hW
  clear ho ho2 hb k hj hW hB
  have l0 : (a.size : Int) ≤ 400 := by omega
  have l1 := Lib.hid (show (b.size : Int) ≤ 400 - a.size by omega)
  have l2 := Lib.hid (show (c.size : Int) ≤ 400 - ((a.size : Int) + b.size) by omega)
  have l3 := Lib.hid (show (d.size : Int) ≤ 400 - ((a.size : Int) + b.size + c.size) by omega)
  clear hs
  go_enter Tryz.func81, Tryz.ntmps81
  go_wp2_with fail
  rw [← HW.out]
  clear HW
  refine wp_loop_rounds 5 ?_
  rw [rounds_succ]
  go_wp2_with fail
  rw [rounds_succ]
  have l1 := l1.out
  go_wp2_with fail
  rw [rounds_succ]
  have l2 := l2.out
  clear l1
  go_wp2_with fail
  rw [rounds_succ]
  have l3 := l3.out
  clear l2
  go_wp2_with fail
  rw [rounds_succ]
  clear l3 l0 q0 q1 q2 q3
  go_wp2_with fail
  refine HJ.out.mono ?_
  clear HJ
  rintro e z ⟨rfl, hz⟩
  have hbb := HB.out.trans (hz.mono HB.out.size)
  have g := bk_below K.out hz
  have HS := Lib.hid hbb.size
  have d0 : z.cell? ⟨w.heap.size, 0, none⟩ = some (.int .i64 0) := (bk_cell g 0).trans rfl
  have d1 : z.cell? ⟨w.heap.size, 1, none⟩ = some (.int .i64 0) := (bk_cell g 1).trans rfl
  have d2 : z.cell? ⟨w.heap.size, 2, none⟩ = some (.string ⟨#[]⟩) := (bk_cell g 2).trans rfl
  have d3 : z.cell? ⟨w.heap.size, 3, none⟩ = some (.slice none 0 0) := (bk_cell g 3).trans rfl
  have f0 : z.frozen? ⟨w.heap.size, 0, none⟩ = false := bk_frozen g 0
  have f1 : z.frozen? ⟨w.heap.size, 1, none⟩ = false := bk_frozen g 1
  have f2 : z.frozen? ⟨w.heap.size, 2, none⟩ = false := bk_frozen g 2
  have f3 : z.frozen? ⟨w.heap.size, 3, none⟩ = false := bk_frozen g 3
  clear g hz HB K
  go_wp2_with fail
  refine bodyPost_ret (v := .tuple #[.agg #[.int .i64 2, .int .i64 0, .string res, .slice none 0 0], .int .i64 0]) (by simp [results, Tryz.results81, go_sem, d0, d1, d2, d3]) rfl ⟨rfl, (((hbb.setCell (p := ⟨w.heap.size, 0, none⟩) (by simp only; omega) _).setCell (p := ⟨w.heap.size, 1, none⟩) (by simp only; omega) _).setCell (p := ⟨w.heap.size, 2, none⟩) (by simp only; omega) _).setCell (p := ⟨w.heap.size, 3, none⟩) (by simp only; omega) _⟩
end Go.Proofs.YteopodohghnokaaGreatDoor
