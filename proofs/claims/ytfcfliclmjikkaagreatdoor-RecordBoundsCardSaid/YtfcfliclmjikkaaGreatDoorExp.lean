/- The plain runner: every operation. -/
import Derived.Test.YtfcfliclmjikkaaGreatDoorExo
namespace Go.Proofs.YtfcfliclmjikkaaGreatDoor.Ex
open Go
set_option linter.unusedVariables false
set_option linter.unusedSimpArgs false
section
variable {E : Env} {γ : Cx} {N : Nat} {H : AH} {w : World} {F : Fr} {a : Act}

theorem builtin_ok (ok : TyOk E) (h : Rel E γ N H.bs.get w) (hN : N ≤ w.heap.size) {b : Builtin} {ts : Array TypeId} {ty : TypeId} {cs : Array Bool} {xs : List AV} {vs : List Value} (hv : VRs γ xs vs) {r : R} (hr : builtinX E b ts xs H = some r)
    (hf : ∀ id, H.n ≤ id → id < r.n → γ.loc id = none) : Does E γ N H w (Go.builtin b ts ty cs vs.toArray) r := by
  have two : ∀ {t u : TypeId}, ts.toList = [t, u] → ts = #[t, u] := fun {t u} e => by
    cases ts; simp only at e; subst e; rfl
  have one : ∀ {t : TypeId}, ts.toList = [t] → ts = #[t] := fun {t} e => by
    cases ts; simp only at e; subst e; rfl
  cases b <;> simp only [builtinX] at hr <;> try (cases hr; done)
  · -- append
    split at hr
    · rename_i t u s x ht
      cases hv with
      | cons h1 hv => cases hv with
        | cons h2 hv => cases hv; rw [two ht]; exact append_ok ok h hN h1 h2 hr hf
    · cases hr
  · -- cap
    split at hr
    · rename_i t x ht
      split at hr
      · rename_i n hn
        simp only [Option.some.injEq] at hr
        subst hr
        cases hv with
        | cons h1 hv => cases hv; exact does_val h (run_asNext (cap_ok ok hn h1 ts ht)) (.int _ _)
      · cases hr
    · cases hr
  · -- clear
    split at hr
    · rename_i t x ht
      cases hv with
      | cons h1 hv => cases hv; rw [one ht]; exact clear_ok ok h h1 hr
    · cases hr
  · -- len
    split at hr
    · rename_i t x ht
      split at hr
      · rename_i n hn
        simp only [Option.some.injEq] at hr
        subst hr
        cases hv with
        | cons h1 hv => cases hv; exact does_val h (run_asNext (len_ok ok hn h1 ts ht)) (.int _ _)
      · cases hr
    · cases hr
  · -- max
    split at hr
    · obtain ⟨v, hv', rfl⟩ := vR_some hr
      cases hv with
      | cons h1 hv =>
        obtain ⟨v', e1, e2⟩ := max_ok (w := w) h.symOk hv' h1 hv
        exact does_val h (run_asNext (by simpa [Builtin.max_] using e1)) e2
    · cases hr
  · -- min
    split at hr
    · obtain ⟨v, hv', rfl⟩ := vR_some hr
      cases hv with
      | cons h1 hv =>
        obtain ⟨v', e1, e2⟩ := min_ok (w := w) h.symOk hv' h1 hv
        exact does_val h (run_asNext (by simpa [Builtin.min_] using e1)) e2
    · cases hr

theorem callX_ok (ok : TyOk E) (h : Rel E γ N H.bs.get w) (hN : N ≤ w.heap.size) (hF : FRel γ F a) {c : Call} {ty : TypeId} {r : R} (hr : callX E F c H = some r)
    (hf : ∀ id, H.n ≤ id → id < r.n → γ.loc id = none) : Does E γ N H w (do let d ← resolve a.eval c ty; invoke d.target d.args) r := by
  unfold callX at hr
  cases hx : opsA F c.args.toList with
  | none => simp [hx] at hr
  | some xs =>
    simp only [hx] at hr
    have hxs := opsA_ok hF hx
    have hargs : c.args.map a.eval = (c.args.toList.map a.eval).toArray := by apply Array.ext'; simp
    split at hr
    · rename_i f hc
      cases hfv : opA F f with
      | none => simp [hfv] at hr
      | some fv =>
        simp only [hfv] at hr
        have hp := opA_ok hF hfv
        unfold callA at hr
        split at hr
        · rename_i g first cap
          simp only [Option.some.injEq] at hr
          subst hr
          generalize hg : a.eval f = gv at hp
          cases hp with
          | func h1 h2 =>
            rename_i first' cap'
            refine ⟨rfl, first'.toList ++ c.args.toList.map a.eval ++ cap'.toList, (h1.append hxs).append h2, ?_⟩
            have e : first' ++ (Array.map a.eval c.args ++ cap') = (first'.toList ++ (List.map a.eval c.args.toList ++ cap'.toList)).toArray := by apply Array.ext'; simp
            simp [resolve, hc, hg, Deferred.ofValue, invoke, e]
        · cases hr
    · cases hr
    · rename_i b hc
      have := builtin_ok (ty := ty) (cs := c.args.map fun | .const _ => true | _ => false) ok h hN hxs hr hf
      rw [← hargs] at this
      have e : (do let d ← resolve a.eval c ty; invoke d.target d.args) = Go.builtin b c.argTypes ty (c.args.map fun | .const _ => true | _ => false) (c.args.map a.eval) := by
        simp only [resolve, hc, pure_bind, invoke]
        rfl
      rw [e]
      exact this

theorem exOp_ok (ok : TyOk E) (h : Rel E γ N H.bs.get w) (hN : N ≤ w.heap.size) (hF : FRel γ F a) {o : Oper} {r : R} (hr : exOp E F o.op H = some r)
    (hf : ∀ id, H.n ≤ id → id < r.n → γ.loc id = none) : Does E γ N H w (execOp a.eval o) r := by
  cases ho : o.op <;> rw [ho] at hr <;> simp only [exOp] at hr <;> try (cases hr; done)
  all_goals simp only [execOp, ho]
  · exact move_ok h hF hr rfl
  · exact move_ok h hF hr rfl
  · exact pick_ok h hF hr
  · exact alloc_ok ok h hN hr hf
  · exact box_ok h hN hF hr hf
  · exact build_ok ok h hF hr
  · exact buildSlice_ok ok h hN hF hr hf (by simp)
  · exact load_ok ok h hF hr
  · exact store_ok ok h hF hr
  · have := nilCheck_ok h hF hr (o := o) ho
    simpa only [execOp, ho] using this
  · exact bin_ok ok h hF hr
  · exact un_ok ok h hF hr
  · exact conv_ok ok h hN hF hr hf
  · exact iface_ok ok h hF hr
  · split at hr
    · exact func_ok h hF hr
    · cases hr
  · exact makeSlice_ok ok h hN hF hr hf
  · exact slice_ok ok h hF hr
  · exact fieldAddr_ok ok h hF hr
  · exact field_ok ok h hF hr
  · exact indexAddr_ok ok h hF hr
  · exact index_ok ok h hF hr
  · exact assert_ok ok h hF hr
  · exact extract_ok h hF hr
  · exact callX_ok ok h hN hF hr hf
end
end Go.Proofs.YtfcfliclmjikkaaGreatDoor.Ex
