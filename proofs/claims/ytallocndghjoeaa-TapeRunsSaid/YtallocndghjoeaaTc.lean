/- Walks of package tape: a call is counted, a change is put. -/
import Derived.Test.YtallocndghjoeaaTb
namespace Go.Proofs.Ytallocndghjoeaa
open Go.RowKit Go.Proofs.YtallocndghjoeaaW.PrintWords

/-- Of what was there only block b and the row may have turned. -/
structure Fr (w w' : World) (b : Nat) (row : Option Nat) : Prop where
  os : w'.os = w.os
  tape : w'.tape = w.tape
  output : w'.output = w.output
  size : w.heap.size ≤ w'.heap.size
  block : ∀ k, k < w.heap.size → k ≠ b → some k ≠ row → w'.heap[k]? = w.heap[k]?

theorem Fr.refl (w : World) (b : Nat) (row : Option Nat) : Fr w w b row := ⟨rfl, rfl, rfl, Nat.le_refl _, fun _ _ _ _ => rfl⟩
theorem Fr.of_below {w w' : World} (h : Below w.heap.size w w') (b : Nat) (row : Option Nat) : Fr w w' b row := ⟨h.os, h.tape, h.output, h.size, fun k hk _ _ => h.block k hk⟩
theorem Fr.of_grown {w w' : World} {row : Option Nat} (h : w.grownBy w' row) (b : Nat) : Fr w w' b row := ⟨h.os, h.tape, h.output, h.size, fun k hk _ hr => h.block k hk hr⟩
theorem Fr.trans {w w1 w2 : World} {b : Nat} {row row1 : Option Nat} (h : Fr w w1 b row) (k : Fr w1 w2 b row1) (hr : ∀ j, row1 = some j → row = some j ∨ w.heap.size ≤ j) : Fr w w2 b row :=
  ⟨k.os.trans h.os, k.tape.trans h.tape, k.output.trans h.output, Nat.le_trans h.size k.size, fun i hi hb hn =>
    (k.block i (Nat.lt_of_lt_of_le hi h.size) hb (fun e => by rcases hr i e.symm with h' | h'; exact hn h'.symm; omega)).trans (h.block i hi hb hn)⟩
theorem Fr.trans' {w w1 w2 : World} {b : Nat} {row : Option Nat} (h : Fr w w1 b row) (k : Fr w1 w2 b row) : Fr w w2 b row := h.trans k (fun _ e => .inl e)
theorem Fr.set {w w1 : World} {b : Nat} {row : Option Nat} (h : Fr w w1 b row) (j : Nat) (u : Value) : Fr w (w1.setCell ⟨b, j, none⟩ u) b row :=
  h.trans' ⟨rfl, rfl, rfl, by simp [World.setCell], fun k _ hb _ => Below.heap_setCell _ _ _ _ (by simpa using hb)⟩
theorem Fr.drew {w w1 : World} {b : Nat} {row : Option Nat} (h : Fr w w1 b row) : Fr w w1.drew b row := ⟨h.os, h.tape, h.output, h.size, h.block⟩
theorem Fr.drewN {w w1 : World} {b : Nat} {row : Option Nat} (h : Fr w w1 b row) (n : Nat) : Fr w (w1.drewN n) b row := ⟨h.os, h.tape, h.output, h.size, h.block⟩
theorem Fr.alloc {w w1 : World} {b : Nat} {row : Option Nat} (h : Fr w w1 b row) (o : Obj) : Fr w (w1.alloc o) b row :=
  h.trans' (Fr.of_below ((Below.refl _ _).alloc (Nat.le_refl _) o) b row)
theorem Fr.mono {w w1 : World} {b : Nat} {row : Option Nat} (h : Fr w w1 b none) : Fr w w1 b row := ⟨h.os, h.tape, h.output, h.size, fun k hk hb _ => h.block k hk hb (by simp)⟩
theorem Fr.below {w w1 : World} {b B : Nat} {row : Option Nat} (h : Fr w w1 b row) (hB : B ≤ w.heap.size) (hb : B ≤ b) (hr : ∀ k, row = some k → B ≤ k) : Below B w w1 :=
  ⟨h.os, h.tape, h.output, h.size, fun k hk => h.block k (by omega) (by omega) (fun e => by have := hr k e.symm; omega)⟩
theorem Fr.keep {w w1 : World} {b : Nat} {row : Option Nat} (h : Fr w w1 b row) {k : Nat} {o : Obj} (hk : w.heap[k]? = some o) (hb : k ≠ b) (hr : some k ≠ row) : w1.heap[k]? = some o :=
  (h.block k (blk_lt hk) hb hr).trans hk
theorem Fr.own {w w1 : World} {b : Nat} {row : Option Nat} (h : Fr w w1 b row) {base : Nat} {e : TypeId} {size n : Nat} {v : Value} {xs : List Value} (ho : w.ownsRow base e size v n xs) (hb : v.ownBlock ≠ some b) (hr : v.ownBlock = none ∨ v.ownBlock ≠ row) : w1.ownsRow base e size v n xs := by
  refine own_move ho (fun k hk => ?_)
  refine h.block k (own_lt ho k hk) (fun e => hb (by rw [hk, e])) (fun e => ?_)
  rcases hr with hr | hr
  · rw [hk] at hr; cases hr
  · exact hr (hk.trans e)

set_option maxHeartbeats 400000 in
theorem counted_any (b : Nat) (s0 s1 : ByteArray) (lv : Value) (room crash keep torn calls : Int) (down : Bool) (w : World) (hc0 : 0 ≤ calls) (hc1 : calls ≤ 1000000000000)
    (hB : w.heap[b]? = some (.cells (tapeCells s0 s1 lv room crash keep torn calls down) 59 (0, 0))) :
    Calls Try.prog 31 #[.pointer (some ⟨b, 0, none⟩)] w fun e w' => e = .returned (.int .i64 (if crash = calls + 1 then 16 else 0)) ∧
      w'.heap[b]? = some (.cells (tapeCells s0 s1 lv room crash keep torn (calls + 1) (decide (crash = calls + 1))) 59 (0, 0)) ∧ Fr w w' b none := by
  have e4 : w.cell? ⟨b, 4, none⟩ = some (.int .i64 crash) := blk_cell hB 4
  have e7 : w.cell? ⟨b, 7, none⟩ = some (.int .i64 calls) := blk_cell hB 7
  have e8 : w.cell? ⟨b, 8, none⟩ = some (.bool down) := blk_cell hB 8
  have f7 := blk_frozen hB 7
  have f8 := blk_frozen hB 8
  have HB := Lib.hid hB
  clear hB
  have key : ∀ d : Bool, ((w.setCell ⟨b, 7, none⟩ (.int .i64 (calls + 1))).setCell ⟨b, 8, none⟩ (.bool d)).drew.heap[b]? = some (.cells (tapeCells s0 s1 lv room crash keep torn (calls + 1) d) 59 (0, 0)) ∧
      Fr w ((w.setCell ⟨b, 7, none⟩ (.int .i64 (calls + 1))).setCell ⟨b, 8, none⟩ (.bool d)).drew b none :=
    fun d => ⟨blk_set (blk_set HB.out 7 (.int .i64 (calls + 1))) 8 (.bool d), (((Fr.refl _ _ _).set _ _).set _ _).drew⟩
  have KEY := Lib.hid key
  clear key
  by_cases hc : crash = calls + 1
  · subst hc
    go_enter Try.func31, Try.ntmps31
    go_wp2
    go_region
    go_wp2
    go_ret
    exact ⟨by simp, by simpa using KEY.out true⟩
  · have hd : (crash == calls + 1) = false := by simpa using hc
    have HC := Lib.hid hc
    clear hc
    go_enter Try.func31, Try.ntmps31
    go_wp2
    go_region
    go_wp2
    go_ret
    exact ⟨rfl, KEY.out false⟩

theorem info61 : (Try.prog.info? 61).map (fun i => (i.zero, i.size, i.bytes)) = some (some (.agg #[.int .i64 0, .bool false, .string ⟨#[]⟩]), 3, 32) := by kernel_rfl

end Go.Proofs.Ytallocndghjoeaa
