/- How many kids a kind has: the walk of the program's reading. -/
import Derived.Test.YtbmjdkbakeckoaaLd
namespace Go.Proofs.Ytbmjdkbakeckoaa
open Go.RowKit Go.Proofs.YtbmjdkbakeckoaaW.PrintWords Go.Proofs.Ytbmjdkbakeckoaa.PRefsAll
set_option linter.unusedVariables false
set_option linter.unusedSimpArgs false

def kidsF (x : Int) : Int := if x < 1 ∨ 23 < x then -2 else if x ≤ 4 then 0 else if x = 5 ∨ x = 6 then -1 else if x = 8 ∨ x = 9 then 1 else if x = 10 then 3 else 2

set_option maxRecDepth 100000 in
set_option maxHeartbeats 1600000 in
theorem kids_any (x : Int) (w : World) : Calls Try.prog 44 #[.int .i64 x] w fun e w' => e = .returned (.int .i64 (kidsF x)) ∧ w' = w := by
  go_enter Try.func44, Try.ntmps44
  go_wp2_with fail
  all_goals
    go_ret
    refine ⟨?_, rfl⟩
    unfold kidsF
    first | (simp_all; done) | (simp_all; omega) | (repeat' split) <;> first | rfl | omega
end Go.Proofs.Ytbmjdkbakeckoaa
