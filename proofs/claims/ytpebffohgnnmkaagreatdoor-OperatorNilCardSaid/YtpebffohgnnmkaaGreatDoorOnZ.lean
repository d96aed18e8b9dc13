/- OperatorNil: for any text and name. -/
import Derived.Test.YtpebffohgnnmkaaGreatDoorOf
import Derived.Test.YtpebffohgnnmkaaGreatDoorOnG
namespace Go.Proofs.YtpebffohgnnmkaaGreatDoor
open Go Go.Proofs
set_option maxRecDepth 1000000
theorem On_all (a0 : ByteArray) (a1 : ByteArray) (W : World) (hglob : GlobOk W) : Calls Tryz.prog 3 #[.string a0, .string a1] W fun e W' => e = .returned (.bool true) ∧ RowKit.Below W.heap.size W W' := by
  obtain ⟨hsz, rv, hrv, h1⟩ := hglob
  refine Ex.fast_law (E := env1) (γ := ⟨fun _ => none, fun _ => 0, fun i => if i = 7 then rv else if i = 0 then .string a0 else .string a1⟩) ty1 fn1 hook1 hnum1 only1 known.mixed (L := 100000) (n := 60) (f := 3) (fn := Tryz.f3) Tryz.func3 (by kernel_rfl) (by kernel_rfl) (args := [.opq 0, .opq 1]) ranNil (fun _ => rfl) (fun {i lo hi} h => ?_) (args' := [.string a0, .string a1]) ?_ (fun {g v} hg => ?_)
  · have h : (Ex.Tr.nil : Ex.Tr (Int × Int)).get i = some (lo, hi) := h
    rw [Ex.Tr.get_nil] at h
    cases h
  · exact .cons (.opq 0 rfl) (.cons (.opq 1 rfl) .nil)
  · have hg : globs.get g = some v := hg
    unfold globs at hg
    rw [Ex.Tr.get_set] at hg
    split at hg
    · rename_i e
      subst e
      obtain rfl : Ex.AV.opq 7 = v := Option.some.inj hg
      exact ⟨hsz, rv, hrv, Ex.VR.opq 7 h1⟩
    · rw [Ex.Tr.get_nil] at hg; cases hg
end Go.Proofs.YtpebffohgnnmkaaGreatDoor
