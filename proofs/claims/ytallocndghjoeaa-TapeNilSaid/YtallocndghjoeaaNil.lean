/- A tape that there is not has nothing: the walk of the statement. -/
import Derived.Test.YtallocndghjoeaaTk
namespace Go.Proofs.Ytallocndghjoeaa
open Go.RowKit Go.Proofs.YtallocndghjoeaaW.PrintWords

set_option maxHeartbeats 1600000 in
theorem law_nil (n : Int) (_ : (Lit.int .i64 n).wf = true) (s : ByteArray) (_ : s.size ≤ maxLen) (w : World) : Calls Try.prog 7 #[.int .i64 n, .string s] w fun e w' => e = .returned (.bool true) ∧ Below w.heap.size w w' := by
  go_enter Try.func7, Try.ntmps7
  go_wp2_with fail
  refine (fall_nil 0 0 0 0 _).mono ?_
  rintro e w1 ⟨rfl, hb1⟩
  go_wp2_with fail
  refine (side_nil n _).mono ?_
  rintro e w' ⟨rfl, rfl⟩
  go_wp2_with (first | (go_at_call 12; refine (num_any _ _).mono ?_; rintro e w' ⟨rfl, rfl⟩) | (go_at_call 9; refine (add_nil n _ _).mono ?_; rintro e w' ⟨rfl, rfl⟩) | (go_at_call 13; refine (wipe_nil n _).mono ?_; rintro e w' ⟨rfl, rfl⟩) | (go_at_call 15; refine (seal_nil _).mono ?_; rintro e w' ⟨rfl, rfl⟩) | (go_at_call 16; refine (down_nil _).mono ?_; rintro e w' ⟨rfl, rfl⟩) | (go_at_call 17; refine (calls_nil _).mono ?_; rintro e w' ⟨rfl, rfl⟩) | (go_at_call 18; refine (loose_nil _).mono ?_; rintro e w' ⟨rfl, rfl⟩))
  refine (awake_any _).mono ?_
  rintro e w2 ⟨rfl, hb2⟩
  have hbb : Below w.heap.size w w2 := (hb1.alloc hb1.size _).trans (hb2.mono (by have := hb1.size; simp; omega))
  clear hb1 hb2
  go_wp2
  go_ret
  exact ⟨rfl, hbb⟩
end Go.Proofs.Ytallocndghjoeaa
