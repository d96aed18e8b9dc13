/- Package record on marks and steps of known names: contracts. -/
import Derived.Test.YtfcfliclmjikkaaGreatDoorBb
import Derived.Below
namespace Go.Proofs.YtfcfliclmjikkaaGreatDoor
open Go Go.Proofs Go.Proofs.YtfcfliclmjikkaaGreatDoor.Ex
open Go.RowKit (Below)
set_option maxRecDepth 100000
set_option linter.unusedVariables false

theorem byteFn : ByteFn Tryz.prog 142 := ⟨Tryz.f142, Tryz.func142, by kernel_rfl, by kernel_rfl, by kernel_rfl, by rfl⟩
theorem countFn : CountFn Tryz.prog 102 := ⟨Tryz.f102, Tryz.func102, by kernel_rfl, by kernel_rfl, by kernel_rfl, by rfl⟩
theorem compFn : CompFn Tryz.prog 90 := ⟨Tryz.f90, Tryz.func90, by kernel_rfl, by kernel_rfl, by kernel_rfl, by rfl⟩
theorem mixed : Tryz.prog.follows .mixedOrders = true := by kernel_rfl
theorem no142 : fns.get 142 = none := by kernel_rfl
theorem no102 : fns.get 102 = none := by kernel_rfl
theorem no90 : fns.get 90 = none := by kernel_rfl
theorem call_is {f : FuncId} {fn : Func} (hf : Tryz.prog.funcs[f]? = some fn) (hb : fn.body.isSome = true) (hn : fn.name ≠ "runtime.NumGoroutine") {args : List AV} {args' : List Value} {p : AV → Bool} (h : isC f args p = true) (hargs : VRs ⟨fun _ => none, fun _ => 0, fun _ => .nilIface⟩ args args') (w : World) :
    Calls Tryz.prog f args'.toArray w fun e w' => ∃ v v', e = .returned v' ∧ p v = true ∧ (∃ γ', VR γ' v v') ∧ Below w.heap.size w w' :=
  fast_call (E := env) (envOf_ty _ _ _ _) (envOf_fn _ _ _ _) (hookC_ok (E := env) rfl byteFn countFn compFn) (hookC_num (E := env) rfl) (fun {f i} hf xs H => hookC_fn no142 no102 no90 hf xs H) mixed (L := 100000) (n := 60) hf hb hn h (fun _ => rfl)
    (fun {i lo hi} h => by have h : (Tr.nil : Tr (Int × Int)).get i = some (lo, hi) := h; rw [Tr.get_nil] at h; cases h) hargs (fun {g v} h => by have h : (Tr.nil : Tr AV).get g = some v := h; rw [Tr.get_nil] at h; cases h)

def mkV (i : Nat) : Array Value := #[.string ⟨(nmA i).toArray⟩, .string ByteArray.empty, .int .i64 0, .int .i64 0, .int .i64 0, .int .i64 1]
def stV : Array Value := #[.int .i64 4, .string ⟨#[120]⟩, .string ByteArray.empty, .int .i64 0, .int .i64 0, .int .i64 0]
theorem vr_mk (γ : Cx) (i : Nat) : VR γ (mkA i) (.agg (mkV i)) := .agg (.cons (.str _) (.cons (.str []) (.cons (.int _ _) (.cons (.int _ _) (.cons (.int _ _) (.cons (.int _ _) .nil))))))
theorem vr_st (γ : Cx) : VR γ stA (.agg stV) := .agg (.cons (.int _ _) (.cons (.str [120]) (.cons (.str []) (.cons (.int _ _) (.cons (.int _ _) (.cons (.int _ _) .nil))))))
theorem row_is {i : Nat} (hi : i < 260) : rowOk i = true := by
  by_cases h : i < 130
  · exact List.all_eq_true.1 rowTab0 i (List.mem_range'_1.2 (by omega))
  · exact List.all_eq_true.1 rowTab1 i (List.mem_range'_1.2 (by omega))
theorem dig_calls {i : Nat} (hi : i < 260) (w : World) : Calls Tryz.prog 17 #[.int .i64 (1000 + i : Nat)] w fun e w' => e = .returned (.string ⟨(dgA i).toArray⟩) ∧ Below w.heap.size w w' := by
  have h := row_is hi
  unfold rowOk at h
  simp only [Bool.and_eq_true] at h
  refine (call_is Tryz.func17 (by kernel_rfl) (by decide) h.1.1.1 (args' := [.int .i64 (1000 + i : Nat)]) (.cons (.int _ _) .nil) w).mono ?_
  rintro e w' ⟨v, v', rfl, hp, ⟨γ', hv⟩, hb⟩
  unfold isStr at hp
  split at hp
  · have := of_decide_eq_true hp
    subst this
    cases hv
    exact ⟨rfl, hb⟩
  · cases hp
theorem may_calls {i : Nat} (hi : i < 260) (w : World) : Calls Tryz.prog 19 #[.agg (mkV i)] w fun e w' => e = .returned (.bool true) ∧ Below w.heap.size w w' := by
  have h := row_is hi
  unfold rowOk at h
  simp only [Bool.and_eq_true] at h
  refine (call_is Tryz.func19 (by kernel_rfl) (by decide) h.1.1.2 (args' := [.agg (mkV i)]) (.cons (vr_mk _ i) .nil) w).mono ?_
  rintro e w' ⟨v, v', rfl, hp, ⟨γ', hv⟩, hb⟩
  unfold isTrue at hp
  split at hp
  · subst hp
    cases hv
    exact ⟨rfl, hb⟩
  · cases hp
theorem mark_calls {i : Nat} (hi : i < 260) (w : World) : Calls Tryz.prog 36 #[.agg (mkV i)] w fun e w' => ∃ s : ByteArray, e = .returned (.string s) ∧ s.size ≤ 1000 ∧ Below w.heap.size w w' := by
  have h := row_is hi
  unfold rowOk at h
  simp only [Bool.and_eq_true] at h
  refine (call_is Tryz.func36 (by kernel_rfl) (by decide) h.1.2 (args' := [.agg (mkV i)]) (.cons (vr_mk _ i) .nil) w).mono ?_
  rintro e w' ⟨v, v', rfl, hp, ⟨γ', hv⟩, hb⟩
  unfold isShort at hp
  split at hp
  · rename_i s
    cases hv
    exact ⟨_, rfl, by rw [Nat.ble_eq] at hp; simpa [ByteArray.size] using hp, hb⟩
  · cases hp
theorem cmp_calls {j : Nat} (hj : j + 1 < 260) (w : World) : Calls Tryz.prog 39 #[.agg (mkV (j + 1)), .agg (mkV j)] w fun e w' => e = .returned (.int .i64 1) ∧ Below w.heap.size w w' := by
  have h := row_is hj
  unfold rowOk at h
  simp only [Bool.and_eq_true] at h
  refine (call_is Tryz.func39 (by kernel_rfl) (by decide) h.2 (args' := [.agg (mkV (j + 1)), .agg (mkV j)]) (.cons (vr_mk _ _) (.cons (vr_mk _ _) .nil)) w).mono ?_
  rintro e w' ⟨v, v', rfl, hp, ⟨γ', hv⟩, hb⟩
  unfold isOne at hp
  split at hp
  · rw [Bool.and_eq_true] at hp
    obtain ⟨rfl, rfl⟩ := And.intro (of_decide_eq_true hp.1) (of_decide_eq_true hp.2)
    cases hv
    exact ⟨rfl, hb⟩
  · cases hp
theorem stepMay_calls (w : World) : Calls Tryz.prog 21 #[.agg stV] w fun e w' => e = .returned (.bool true) ∧ Below w.heap.size w w' := by
  have h := stepTab
  simp only [Bool.and_eq_true] at h
  refine (call_is Tryz.func21 (by kernel_rfl) (by decide) h.1.1 (args' := [.agg stV]) (.cons (vr_st _) .nil) w).mono ?_
  rintro e w' ⟨v, v', rfl, hp, ⟨γ', hv⟩, hb⟩
  unfold isTrue at hp
  split at hp
  · subst hp
    cases hv
    exact ⟨rfl, hb⟩
  · cases hp
theorem step_calls (w : World) : Calls Tryz.prog 37 #[.agg stV] w fun e w' => ∃ s : ByteArray, e = .returned (.string s) ∧ s.size ≤ 1000 ∧ Below w.heap.size w w' := by
  have h := stepTab
  simp only [Bool.and_eq_true] at h
  refine (call_is Tryz.func37 (by kernel_rfl) (by decide) h.1.2 (args' := [.agg stV]) (.cons (vr_st _) .nil) w).mono ?_
  rintro e w' ⟨v, v', rfl, hp, ⟨γ', hv⟩, hb⟩
  unfold isShort at hp
  split at hp
  · rename_i s
    cases hv
    exact ⟨_, rfl, by rw [Nat.ble_eq] at hp; simpa [ByteArray.size] using hp, hb⟩
  · cases hp
theorem awake_calls (w : World) : Calls Tryz.prog 8 #[] w fun e w' => e = .returned (.bool true) ∧ Below w.heap.size w w' := by
  have h := stepTab
  simp only [Bool.and_eq_true] at h
  refine (call_is Tryz.func8 (by kernel_rfl) (by decide) h.2 (args' := []) .nil w).mono ?_
  rintro e w' ⟨v, v', rfl, hp, ⟨γ', hv⟩, hb⟩
  unfold isTrue at hp
  split at hp
  · subst hp
    cases hv
    exact ⟨rfl, hb⟩
  · cases hp
end Go.Proofs.YtfcfliclmjikkaaGreatDoor
