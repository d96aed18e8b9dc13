/- The document's example of expressions: run by the kernel. -/
import Derived.Test.YteopodohghnokaaGreatDoorXg
import Derived.Test.YteopodohghnokaaGreatDoorProg
import Derived.KernelRfl
namespace Go.Proofs.YteopodohghnokaaGreatDoor
open Go Go.Proofs
set_option maxRecDepth 1000000
noncomputable def envE : Ex.Env := Ex.envOf Tryz.prog .nil .nil (fun _ _ _ => none)
theorem awake_ran : Ex.fastB envE.ty envE.fn envE 10000 60 7 [] = true := by kernel_rfl
theorem awake_any (W : World) : Calls Tryz.prog 7 #[] W fun e w' => e = .returned (.bool true) ∧ RowKit.Below W.heap.size W w' :=
  Ex.fast_law (E := envE) (γ := ⟨fun _ => none, fun _ => 0, fun _ => .nilIface⟩) (Ex.envOf_ty _ _ _ _) (Ex.envOf_fn _ _ _ _) (fun h => by cases h) (fun h => by cases h) (fun _ _ _ => rfl) (by kernel_rfl) (f := 7) (fn := Tryz.f7) Tryz.func7 (by kernel_rfl) (by kernel_rfl) awake_ran (fun _ => rfl)
    (fun {i lo hi} h => by
      have h : (Ex.Tr.nil : Ex.Tr (Int × Int)).get i = some (lo, hi) := h
      rw [Ex.Tr.get_nil] at h; cases h) .nil (fun {g v} h => by
      have h : (Ex.Tr.nil : Ex.Tr Ex.AV).get g = some v := h
      rw [Ex.Tr.get_nil] at h; cases h)
end Go.Proofs.YteopodohghnokaaGreatDoor
