/- What the fast twin says of a call of closed arguments, as a contract. -/
import Derived.Test.YtfcfliclmjikkaaGreatDoorFi
import Derived.Lib.Bytealg
namespace Go.Proofs.YtfcfliclmjikkaaGreatDoor.Ex
open Go
set_option linter.unusedVariables false
set_option linter.unusedSimpArgs false

/-- Does a call answer so? -/
noncomputable def fastIs (ty : Tr TI) (fn : Tr FI) (E : Env) (L n : Nat) (f : FuncId) (args : List AV) (p : AV → Bool) : Bool := match fastF ty fn E L n f args ⟨0, .nil⟩ (fun v H => some (.ret, v, H)) with
  | some (_, v, _) => p v
  | none => false
theorem fast_call {E : Env} (ok : TyOk E) (fok : FnOk E) (hk : HookOk E) (hkn : HookNum E) (hkf : ∀ {f : FuncId} {i : FI}, E.fn.get f = some i → ∀ args H, E.hook f args H = none) (hm : E.P.follows .mixedOrders = true) {L n : Nat} {f : FuncId} {fn : Func} (hf : E.P.funcs[f]? = some fn) (hb : fn.body.isSome = true) (hnm : fn.name ≠ "runtime.NumGoroutine") {args : List AV} {p : AV → Bool}
    (h : fastIs E.ty E.fn E L n f args p = true)
    {γ : Cx} (hγ : ∀ i, γ.loc i = none) (hsym : ∀ {i : Nat} {lo hi : Int}, E.syms.get i = some (lo, hi) → lo ≤ γ.sym i ∧ γ.sym i ≤ hi) {args' : List Value} (hargs : VRs γ args args') {w : World}
    (hglob : ∀ {g : Nat} {v : AV}, E.globs.get g = some v → g < w.heap.size ∧ ∃ rv, w.cell? ⟨g, 0, none⟩ = some rv ∧ VR γ v rv) :
    Calls E.P f args'.toArray w fun e w' => ∃ v v', e = .returned v' ∧ p v = true ∧ (∃ γ', VR γ' v v') ∧ RowKit.Below w.heap.size w w' := by
  unfold fastIs at h
  split at h
  · rename_i e v H' he
    obtain ⟨v1, H1, N, h1, h2⟩ := fast_ok hkf L n f args ⟨0, .nil⟩ _ _ he
    simp only [Option.some.injEq, Prod.mk.injEq] at h2
    obtain ⟨-, rfl, rfl⟩ := h2
    have := run_law ok fok @hk @hkn hm (h1 N (Nat.le_refl _)) hγ hsym hargs hglob
    obtain ⟨c, hc⟩ := Option.isSome_iff_exists.1 hb
    unfold CallWp at this
    rw [callFunc_run hf hc hnm] at this
    refine Calls.mono this ?_
    rintro e' w' ⟨v', rfl, hv, hbel⟩
    exact ⟨v1, v', rfl, h, hv, hbel⟩
  · cases h

/-! ### strings held against one another, too -/
def hookC (ib cs cm : FuncId) : FuncId → List AV → AH → Option (AV × AH) := fun f args H =>
  match Nat.beq f cm with
  | true => match args with
    | [.str a, .str b] => some (.int .i64 (Lib.compareBytes a b), H)
    | _ => none
  | false => hookY ib cs f args H
structure CompFn (P : Program) (cm : FuncId) : Prop where
  fn : ∃ fn, P.funcs[cm]? = some fn ∧ (fn.name == "runtime.NumGoroutine") = false ∧ fn.body.isNone = true ∧ Extern.findNext fn = none ∧ Extern.find fn = some Extern.BytealgCompare.compare
theorem hookC_num {E : Env} {ib cs cm : FuncId} (h : E.hook = hookC ib cs cm) : HookNum E := fun {f xs H H' v} e => by
  rw [h] at e
  unfold hookC at e
  split at e
  · split at e
    · simp only [Option.some.injEq, Prod.mk.injEq] at e; rw [e.2]; exact Nat.le_refl _
    · cases e
  · exact hookY_num (E := { E with hook := hookY ib cs }) (ib := ib) (cs := cs) rfl e
theorem hookC_ok {E : Env} {ib cs cm : FuncId} (h : E.hook = hookC ib cs cm) (hb : ByteFn E.P ib) (hc : CountFn E.P cs) (hm : CompFn E.P cm) : HookOk E := fun {f xs H H' v} e {γ N w xs'} hrel hN hargs hf => by
  rw [h] at e
  unfold hookC at e
  split at e
  · rename_i hq
    have hq := Nat.eq_of_beq_eq_true hq
    subst hq
    split at e
    · rename_i a b
      simp only [Option.some.injEq, Prod.mk.injEq] at e
      obtain ⟨rfl, rfl⟩ := e
      cases hargs with
      | cons h1 h2 =>
        cases h2 with
        | cons h2 h3 =>
          cases h3
          cases h1
          cases h2
          obtain ⟨fn, f1, f2, f3, f4, f5⟩ := hm.fn
          unfold CallWp
          have : (callFunc f [Value.string ⟨a.toArray⟩, .string ⟨b.toArray⟩].toArray).run E.P w = .ok (.value (.int .i64 (Lib.compareBytes a b))) w := by
            rw [run_callFunc_extern f1 f2 f3 f4 f5]
            have e3 : [Value.string ⟨a.toArray⟩, .string ⟨b.toArray⟩].toArray = #[Value.string ⟨a.toArray⟩, .string ⟨b.toArray⟩] := rfl
            rw [e3, Lib.run_compareString]
            rfl
          rw [this]
          exact ⟨γ, .int _ _, hrel, .refl _ _ _ _⟩
    · cases e
  · have := @hookY_ok { E with hook := hookY ib cs } ib cs rfl hb hc f xs H H' v e γ N w xs' ⟨hrel.blk, hrel.low, hrel.inj, hrel.glob, hrel.sym⟩ hN hargs hf
    exact callWp_mono this fun v' w' ⟨γ', a, b, c⟩ => ⟨γ', a, ⟨b.blk, b.low, b.inj, b.glob, b.sym⟩, c⟩
/-- Who has code has no other answer. -/
theorem hookC_fn {ib cs cm : FuncId} {fns : Tr FI} (h1 : fns.get ib = none) (h2 : fns.get cs = none) (h3 : fns.get cm = none) {f : FuncId} {i : FI} (hf : fns.get f = some i) (xs : List AV) (H : AH) : hookC ib cs cm f xs H = none := by
  have q : ∀ g, fns.get g = none → Nat.beq f g = false := fun g hg => by
    cases hq : Nat.beq f g with
    | false => rfl
    | true => rw [Nat.eq_of_beq_eq_true hq, hg] at hf; cases hf
  unfold hookC hookY hookX
  rw [q _ h1, q _ h2, q _ h3]
end Go.Proofs.YtfcfliclmjikkaaGreatDoor.Ex
