/- RefsCircle: the runner over the program, and what its cases give. -/
import Derived.Test.YtbmjdkbakeckoaaFg
import Derived.Test.YtbmjdkbakeckoaaProg
import Derived.KernelRfl
namespace Go.Proofs.Ytbmjdkbakeckoaa
open Go Go.Proofs Go.Proofs.Ytbmjdkbakeckoaa.Ex
set_option linter.unusedVariables false

noncomputable def EC (r s : Nat) : Env := envOf Try.prog ((Tr.nil.set 0 (0, .ofNat ((255 - r) / 12))).set 1 (0, .ofNat ((255 - s) / 3))) .nil (hookX 88)
/-- What the fast twin says of one case. -/
noncomputable def caseB (r s : Nat) : Bool := fastB (EC r s) 100000 200 6 [.lin .u8 0 12 (.ofNat r), .lin .u8 1 3 (.ofNat s)]
def Case (r s : Nat) : Prop := caseB r s = true
set_option maxRecDepth 100000
theorem byteFn : ByteFn Try.prog 88 := ⟨Try.f88, Try.func88, by kernel_rfl, by kernel_rfl, by kernel_rfl, by rfl⟩
theorem noBody (r s : Nat) : (EC r s).fn.get 88 = none := by kernel_rfl
theorem mixed : Try.prog.follows .mixedOrders = true := by kernel_rfl

theorem circle_of (h : ∀ r s, r < 12 → s < 3 → Case r s) (a : Int) (ha : (Lit.int .u8 a).wf = true) (b : Int) (hb : (Lit.int .u8 b).wf = true) (w : World) :
    Calls Try.prog 6 #[.int .u8 a, .int .u8 b] w fun e w' => e = .returned (.bool true) ∧ RowKit.Below w.heap.size w w' := by
  have ha' : 0 ≤ a ∧ a ≤ 255 := by simp [Lit.wf, IntKind.min, IntKind.max, IntKind.signed, IntKind.bits] at ha; omega
  have hb' : 0 ≤ b ∧ b ≤ 255 := by simp [Lit.wf, IntKind.min, IntKind.max, IntKind.signed, IntKind.bits] at hb; omega
  obtain ⟨n, rfl⟩ := Int.eq_ofNat_of_zero_le ha'.1
  obtain ⟨m, rfl⟩ := Int.eq_ofNat_of_zero_le hb'.1
  let γ : Cx := ⟨fun _ => none, fun i => if i = 0 then ((n / 12 : Nat) : Int) else ((m / 3 : Nat) : Int), fun _ => default⟩
  have hc := h (n % 12) (m % 3) (Nat.mod_lt _ (by decide)) (Nat.mod_lt _ (by decide))
  have e1 : (12 : Int) * γ.sym 0 + .ofNat (n % 12) = (n : Int) := by
    show (12 : Int) * ((n / 12 : Nat) : Int) + ((n % 12 : Nat) : Int) = (n : Int)
    omega
  have e2 : (3 : Int) * γ.sym 1 + .ofNat (m % 3) = (m : Int) := by
    show (3 : Int) * ((m / 3 : Nat) : Int) + ((m % 3 : Nat) : Int) = (m : Int)
    omega
  have v1 : VR γ (.lin .u8 0 12 (.ofNat (n % 12))) (.int .u8 (n : Int)) := by rw [← e1]; exact .lin _ _ _ _
  have v2 : VR γ (.lin .u8 1 3 (.ofNat (m % 3))) (.int .u8 (m : Int)) := by rw [← e2]; exact .lin _ _ _ _
  exact fast_law (E := EC (n % 12) (m % 3)) (envOf_ty _ _ _ _) (envOf_fn _ _ _ _) (hookX_ok (ib := 88) rfl byteFn) (hookX_num (ib := 88) rfl) (hookX_fn (E := EC (n % 12) (m % 3)) (ib := 88) rfl (noBody _ _)) mixed Try.func6 rfl (by kernel_rfl) hc (γ := γ) (fun _ => rfl) (fun {i lo hi} hi' => by
    change ((Tr.nil.set 0 ((0 : Int), Int.ofNat ((255 - n % 12) / 12))).set 1 (0, .ofNat ((255 - m % 3) / 3))).get i = some (lo, hi) at hi'
    rw [Tr.get_set, Tr.get_set, Tr.get_nil] at hi'
    split at hi'
    · rename_i q
      subst q
      simp only [Option.some.injEq, Prod.mk.injEq] at hi'
      obtain ⟨rfl, rfl⟩ := hi'
      show (0 : Int) ≤ ((m / 3 : Nat) : Int) ∧ ((m / 3 : Nat) : Int) ≤ (((255 - m % 3) / 3 : Nat) : Int)
      omega
    · split at hi'
      · rename_i q
        subst q
        simp only [Option.some.injEq, Prod.mk.injEq] at hi'
        obtain ⟨rfl, rfl⟩ := hi'
        show (0 : Int) ≤ ((n / 12 : Nat) : Int) ∧ ((n / 12 : Nat) : Int) ≤ (((255 - n % 12) / 12 : Nat) : Int)
        omega
      · cases hi') (.cons v1 (.cons v2 .nil)) (fun {g v} hg => by
    change (Tr.nil : Tr AV).get g = some v at hg
    rw [Tr.get_nil] at hg; cases hg)
end Go.Proofs.Ytbmjdkbakeckoaa
