/- Walks of the small functions of package tape. -/
import Derived.Test.YtallocndghjoeaaRows
import Derived.WalkKit
import Derived.WalkSpells
import Derived.WalkLawsBesides
import Derived.Lib.Hide
import Derived.BigQuiet
import Derived.BigRegion
import Derived.RegionTactic
import Derived.ChangeAlike
import Derived.Deep.QuietTactic
import Derived.Deep.RegionWith
import Derived.Test.YtallocndghjoeaaWWords
namespace Go.Proofs.Ytallocndghjoeaa
open Go.RowKit Go.Proofs.YtallocndghjoeaaW.PrintWords

set_option maxHeartbeats 400000 in
theorem num_any (a : Int) (w : World) : Calls Try.prog 12 #[.int .i64 a] w fun e w' => e = .returned (.int .i64 a) ∧ w = w' := by
  go_enter Try.func12, Try.ntmps12
  go_wp2
  go_ret
  exact ⟨rfl, rfl⟩

def partF (n there : Int) : Int := if n < 0 then 0 else n % (there + 1)

set_option maxHeartbeats 400000 in
theorem part_any (n m : Int) (hm : 0 ≤ m) (hm2 : m ≤ 1000000000000) (w : World) : Calls Try.prog 32 #[.int .i64 n, .int .i64 m] w fun e w' => e = .returned (.int .i64 (partF n m)) ∧ w = w' := by
  by_cases h : n < 0
  · go_enter Try.func32, Try.ntmps32
    go_wp2
    go_ret
    exact ⟨by simp [partF, h], rfl⟩
  · have h0 : 0 ≤ n := by omega
    go_enter Try.func32, Try.ntmps32
    go_wp2
    go_ret
    exact ⟨by simp [partF]; omega, rfl⟩

/-- A tape's own block. -/
def tapeCells (s0 s1 : ByteArray) (lv : Value) (room crash keep torn calls : Int) (down : Bool) : Array Value :=
  #[.string s0, .string s1, lv, .int .i64 room, .int .i64 crash, .int .i64 keep, .int .i64 torn, .int .i64 calls, .bool down]

set_option maxHeartbeats 400000 in
theorem gate_nil (n : Int) (w : World) : Calls Try.prog 26 #[.pointer none, .int .i64 n] w fun e w' => e = .returned (.int .i64 2) ∧ w = w' := by
  go_enter Try.func26, Try.ntmps26
  go_wp2
  go_ret
  exact ⟨rfl, rfl⟩

def gateF (down : Bool) (n : Int) : Int := if down then 16 else if n < 0 ∨ 2 ≤ n then 1 else 0

set_option maxHeartbeats 400000 in
theorem gate_any (b : Nat) (n : Int) (down : Bool) (w : World) (h8 : w.cell? ⟨b, 8, none⟩ = some (.bool down)) :
    Calls Try.prog 26 #[.pointer (some ⟨b, 0, none⟩), .int .i64 n] w fun e w' => e = .returned (.int .i64 (gateF down n)) ∧ w = w' := by
  cases down with
  | true =>
    go_enter Try.func26, Try.ntmps26
    go_wp2
    go_ret
    exact ⟨rfl, rfl⟩
  | false =>
    by_cases h : n < 0
    · go_enter Try.func26, Try.ntmps26
      go_wp2
      go_ret
      exact ⟨by simp [gateF, h], rfl⟩
    · by_cases h2 : 2 ≤ n
      · go_enter Try.func26, Try.ntmps26
        go_wp2
        go_ret
        exact ⟨by simp [gateF, h2], rfl⟩
      · go_enter Try.func26, Try.ntmps26
        go_wp2
        go_ret
        exact ⟨by simp [gateF, h, h2], rfl⟩


def withF (s0 s1 : ByteArray) (side : Int) (wipe : Bool) (more : ByteArray) : ByteArray × ByteArray :=
  if side = 0 then ((if wipe then more else s0 ++ more), s1) else (s0, if wipe then more else s1 ++ more)


theorem empty_app (s : ByteArray) : ({ data := #[] } : ByteArray) ++ s = s := by
  have : ({ data := #[] } : ByteArray) = ByteArray.empty := rfl
  rw [this, ByteArray.empty_append]

theorem below2 (w : World) (a b : Obj) : Below w.heap.size w ((w.alloc a).alloc b) := ((Below.refl _ _).alloc (Nat.le_refl _) _).alloc (by simp) _
theorem below3 (w : World) (a b c : Obj) : Below w.heap.size w (((w.alloc a).alloc b).alloc c) := (below2 w a b).alloc (by simp; omega) _

set_option maxHeartbeats 400000 in
theorem with_00 (s0 s1 more : ByteArray) (w : World) (hs : s0.size + more.size ≤ 1000000000000) :
    Calls Try.prog 28 #[.agg #[.string s0, .string s1], .agg #[.int .i64 0, .bool false, .string more]] w fun e w' => e = .returned (.agg #[.string (s0 ++ more), .string s1]) ∧ Below w.heap.size w w' := by
  go_enter Try.func28, Try.ntmps28
  go_wp2
  go_region
  go_wp2
  exact bodyPost_ret (v := .agg #[.string (s0 ++ more), .string s1]) (by simp [results, Try.results28, go_sem]) rfl ⟨rfl, (below3 _ _ _ _).drew⟩

set_option maxHeartbeats 400000 in
theorem with_01 (s0 s1 more : ByteArray) (w : World) (hs : s0.size + more.size ≤ 1000000000000) :
    Calls Try.prog 28 #[.agg #[.string s0, .string s1], .agg #[.int .i64 0, .bool true, .string more]] w fun e w' => e = .returned (.agg #[.string more, .string s1]) ∧ Below w.heap.size w w' := by
  go_enter Try.func28, Try.ntmps28
  go_wp2
  go_region
  go_wp2
  exact bodyPost_ret (v := .agg #[.string more, .string s1]) (by simp [results, Try.results28, go_sem, empty_app]) rfl ⟨rfl, (below3 _ _ _ _).drew⟩

set_option maxHeartbeats 400000 in
theorem with_10 (s0 s1 more : ByteArray) (w : World) (hs : s1.size + more.size ≤ 1000000000000) :
    Calls Try.prog 28 #[.agg #[.string s0, .string s1], .agg #[.int .i64 1, .bool false, .string more]] w fun e w' => e = .returned (.agg #[.string s0, .string (s1 ++ more)]) ∧ Below w.heap.size w w' := by
  go_enter Try.func28, Try.ntmps28
  go_wp2
  go_region
  go_wp2
  exact bodyPost_ret (v := .agg #[.string s0, .string (s1 ++ more)]) (by simp [results, Try.results28, go_sem]) rfl ⟨rfl, (below3 _ _ _ _).drew⟩

set_option maxHeartbeats 400000 in
theorem with_11 (s0 s1 more : ByteArray) (w : World) (hs : s1.size + more.size ≤ 1000000000000) :
    Calls Try.prog 28 #[.agg #[.string s0, .string s1], .agg #[.int .i64 1, .bool true, .string more]] w fun e w' => e = .returned (.agg #[.string s0, .string more]) ∧ Below w.heap.size w w' := by
  go_enter Try.func28, Try.ntmps28
  go_wp2
  go_region
  go_wp2
  exact bodyPost_ret (v := .agg #[.string s0, .string more]) (by simp [results, Try.results28, go_sem, empty_app]) rfl ⟨rfl, (below3 _ _ _ _).drew⟩

theorem with_any (s0 s1 : ByteArray) (side : Int) (wipe : Bool) (more : ByteArray) (w : World) (h0 : 0 ≤ side) (h1 : side < 2) (hs : s0.size + s1.size + more.size ≤ 1000000000000) :
    Calls Try.prog 28 #[.agg #[.string s0, .string s1], .agg #[.int .i64 side, .bool wipe, .string more]] w
      fun e w' => e = .returned (.agg #[.string (withF s0 s1 side wipe more).1, .string (withF s0 s1 side wipe more).2]) ∧ Below w.heap.size w w' := by
  rcases (by omega : side = 0 ∨ side = 1) with rfl | rfl <;> cases wipe
  · exact with_00 s0 s1 more w (by omega)
  · exact with_01 s0 s1 more w (by omega)
  · exact with_10 s0 s1 more w (by omega)
  · exact with_11 s0 s1 more w (by omega)

set_option maxHeartbeats 400000 in
theorem size_any (s0 s1 : ByteArray) (w : World) (hs : s0.size + s1.size ≤ 1000000000000) :
    Calls Try.prog 29 #[.agg #[.string s0, .string s1]] w fun e w' => e = .returned (.int .i64 ((s0.size : Int) + s1.size)) ∧ Below w.heap.size w w' := by
  have i0 : ∀ w, (Instr.index 56 (.agg #[.string s0, .string s1]) (.int .i64 0)).run Try.prog w = .ok (.string s0) w := fun _ => by kernel_rfl
  have i1 : ∀ w, (Instr.index 56 (.agg #[.string s0, .string s1]) (.int .i64 1)).run Try.prog w = .ok (.string s1) w := fun _ => by kernel_rfl
  go_enter Try.func29, Try.ntmps29
  go_wp2
  refine wp_loop_rounds 3 ?_
  rw [rounds_succ]
  go_wp2
  rw [rounds_succ]
  go_wp2
  rw [rounds_succ]
  go_wp2
  go_ret
  exact ⟨rfl, (Below.refl _ _).alloc (Nat.le_refl _) _⟩

end Go.Proofs.Ytallocndghjoeaa
