/- The closure that parse.reading defers does nothing where nothing has failed. -/
import Derived.Test.YtlbnfcpdmngjkaaGreatDoorFi
import Derived.RecoverIn
import Derived.Test.YtlbnfcpdmngjkaaGreatDoorProg
import Derived.KernelRfl
namespace Go.Proofs.YtlbnfcpdmngjkaaGreatDoor
open Go Go.Proofs Go.Proofs.YtlbnfcpdmngjkaaGreatDoor.Ex
set_option maxRecDepth 100000
set_option linter.unusedSimpArgs false

theorem quiet64 : QuietFn Tryz.prog 162 := fun x w => by
  refine ⟨callFunc_run (c := (Tryz.f162.body).getD .skip) Tryz.func162 (by kernel_rfl) (by decide), ?_⟩
  refine callsDIn_of_wpSIn Tryz.func162 rfl trivial fun c₀ cs hu => ?_
  have hx := nilB_ok (E := envOf Tryz.prog .nil .nil (fun _ _ _ => none)) (γ := ⟨fun _ => none, fun _ => 0, fun _ => .nilIface⟩) (w := w) (envOf_ty _ _ _ _) (op := .neq) (t := 20) (xo := .tmp 5) (yo := .const .nilIface) .nilIface .nilIface (v := .bool false) (by kernel_rfl)
  obtain ⟨v, ⟨h1, h2⟩, h3⟩ := hx
  cases h3
  have h1 : (eqGuard .neq 20 (.tmp 5) (.const .nilIface) .nilIface .nilIface).run Tryz.prog w = .ok () w := h1
  have h2 : (Go.binOp .neq 20 .nilIface .nilIface).run Tryz.prog w = .ok (.bool false) w := h2
  apply wpSIn_seq
  apply wpSIn_region
  simp [wpOpsSIn, go_sem, recoverD, hu, Tryz.ntmps162, Exit.thenS]
  apply wpSIn_seq
  apply wpSIn_region
  simp [wpOpsSIn, go_sem, h1, h2, Exit.thenS]
  refine wpSIn_cond (t := false) (by simp [Act.eval]) ?_
  refine wpSIn_of_wpIn rfl (wpIn_skip ?_)
  simp [bodyPostS, results, Tryz.results162, go_sem, hu]
  all_goals
    cases c₀
    simp only at hu
    rw [hu]
end Go.Proofs.YtlbnfcpdmngjkaaGreatDoor
