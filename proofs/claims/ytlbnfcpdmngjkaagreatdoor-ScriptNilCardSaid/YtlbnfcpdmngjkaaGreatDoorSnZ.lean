/- ScriptNil: for any command. -/
import Derived.Test.YtlbnfcpdmngjkaaGreatDoorSf
import Derived.Test.YtlbnfcpdmngjkaaGreatDoorSnG
namespace Go.Proofs.YtlbnfcpdmngjkaaGreatDoor
open Go Go.Proofs
set_option maxRecDepth 1000000
/-- A struct's cells, each handed on as it is. -/
theorem opqs {γ : Ex.Cx} : ∀ (l : List Value) (k : Nat), (∀ v ∈ l, v.oneCell' = true) → (∀ i v, l[i]? = some v → γ.opq (k + i) = v) → Ex.VRs γ ((List.range' k l.length).map Ex.AV.opq) l
  | [], k, _, _ => .nil
  | v :: l, k, h1, h2 => by
    rw [List.length_cons, List.range'_succ, List.map_cons]
    have hv : γ.opq k = v := h2 0 v rfl
    have : Ex.VR γ (.opq k) (γ.opq k) := .opq k (by rw [hv]; exact h1 v (by simp))
    rw [hv] at this
    exact .cons this (opqs l (k + 1) (fun u hu => h1 u (by simp [hu])) (fun i u hu => by
      have := h2 (i + 1) u (by rw [List.getElem?_cons_succ]; exact hu)
      rwa [show k + 1 + i = k + (i + 1) by omega]))
theorem Sn_all (cs : Array Value) (hsz : cs.size = 18) (hone : ∀ v ∈ cs.toList, v.oneCell' = true) (W : World) (hglob : GlobOk W) : Calls Tryz.prog 4 #[.agg cs] W fun e W' => e = .returned (.bool true) ∧ RowKit.Below W.heap.size W W' := by
  obtain ⟨hsz1, rv, hrv, h1⟩ := hglob
  refine Ex.fast_law (E := env1) (γ := ⟨fun _ => none, fun _ => 0, fun i => if i = 107 then rv else cs.toList.getD i .nilIface⟩) ty1 fn1 hook1 hnum1 only1 known.mixed (L := 100000) (n := 60) (f := 4) (fn := Tryz.f4) Tryz.func4 (by kernel_rfl) (by kernel_rfl) (args := [.agg [.opq 0, .opq 1, .opq 2, .opq 3, .opq 4, .opq 5, .opq 6, .opq 7, .opq 8, .opq 9, .opq 10, .opq 11, .opq 12, .opq 13, .opq 14, .opq 15, .opq 16, .opq 17]]) ranNil (fun _ => rfl) (fun {i lo hi} h => ?_) (args' := [.agg cs]) ?_ (fun {g v} hg => ?_)
  · have h : (Ex.Tr.nil : Ex.Tr (Int × Int)).get i = some (lo, hi) := h
    rw [Ex.Tr.get_nil] at h
    cases h
  · have hl : cs.toList.length = 18 := by simpa using hsz
    have := opqs (γ := ⟨fun _ => none, fun _ => 0, fun i => if i = 107 then rv else cs.toList.getD i .nilIface⟩) cs.toList 0 hone (fun i v hv => by
      have hi : i < cs.toList.length := (List.getElem?_eq_some_iff.1 hv).1
      show (if 0 + i = 107 then rv else cs.toList.getD (0 + i) .nilIface) = v
      rw [if_neg (by omega), Nat.zero_add, List.getD_eq_getElem?_getD, hv]
      rfl)
    rw [hl] at this
    exact .cons (.agg this) .nil
  · have hg : globs.get g = some v := hg
    unfold globs at hg
    rw [Ex.Tr.get_set] at hg
    split at hg
    · rename_i e
      subst e
      obtain rfl : Ex.AV.opq 107 = v := Option.some.inj hg
      exact ⟨hsz1, rv, hrv, Ex.VR.opq 107 h1⟩
    · rw [Ex.Tr.get_nil] at hg; cases hg
/-- A struct by value: its cells, each one cell. -/
theorem struct_cells {P : Program} {w : World} {t : TypeId} {fs : Array Field} {v : Value} (ht : P.underlying t = some (.struct fs)) (h : Value.okWide P w .any 0 t v) : ∃ cs, v = .agg cs ∧ cs.size = P.cellsOf t ∧ ∀ u ∈ cs.toList, u.oneCell' = true := by
  simp only [Value.okWide, ht] at h
  obtain ⟨cs, h1, h2, ts, h3, h4, h5⟩ := h
  refine ⟨cs, h1, h2, fun u hu => ?_⟩
  obtain ⟨i, hi⟩ := List.getElem?_of_mem hu
  obtain ⟨x, hx, hc⟩ := h5 i u (by rw [← Array.getElem?_toList]; exact hi)
  cases u <;> first
    | rfl
    | (exfalso
       unfold Cell.okWide at hc
       split at hc
       all_goals first
         | (rename_i e; cases e; done)
         | (simp [Cell.ok] at hc; done)
         | (unfold Cell.ok at hc; split at hc <;> simp_all; done))
end Go.Proofs.YtlbnfcpdmngjkaaGreatDoor
