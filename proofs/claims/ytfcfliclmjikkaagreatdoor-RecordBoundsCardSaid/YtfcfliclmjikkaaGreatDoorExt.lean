/- The plain runner: functions. What is said of regions whose order is open is a premise here. -/
import Derived.Test.YtfcfliclmjikkaaGreatDoorExsb
namespace Go.Proofs.YtfcfliclmjikkaaGreatDoor.Ex
open Go
set_option linter.unusedVariables false
set_option linter.unusedSimpArgs false

def HookOk (E : Env) : Prop := CallOk E E.hook

section
variable {E : Env} {γ : Cx} {N B nt : Nat} {w : World} {F : Fr} {a : Act}

theorem exF_ok (ok : TyOk E) (fok : FnOk E) (hk : HookOk E) (hkn : HookNum E) (hdraw : ∀ {call : CallF} {nt : Nat}, CallOk E call → NumOk call → DrawOk E nt call) {L : Nat} : ∀ n, CallOk E (exF E L n)
  | 0 => by intro h; simp [exF] at h
  | n + 1 => by
    intro h γ N w args' hrel hN hargs hf
    rename_i f args H H' v
    simp only [exF] at h
    split at h
    · rename_i r hr
      simp only [Option.some.injEq] at h
      subst h
      exact hk hr hrel hN hargs hf
    · split at h
      · cases h
      · rename_i i hi
        obtain ⟨fn, f1, f2, f3, f4, f5⟩ := fok.fn hi
        split at h
        · cases h
        · rename_i hlen
          have ih : CallOk E (exF E L n) := @exF_ok ok fok @hk @hkn @hdraw L n
          have ihn : NumOk (exF E L n) := @exF_num E @hkn L n
          unfold CallWp
          rw [callFunc_run f1 f2 f5]
          simp only
          -- the frame at the start
          have hs0 : SR E γ N w.heap.size i.ntmps (Tr.nil.put 0 args) H.bs.get { tmps := args'.toArray ++ Array.replicate (fn.ntmps - args'.toArray.size) undef, defers := [] } w :=
            ⟨hrel, frame_ok hargs _, hN, by have := hargs.length; simp only [Array.size_append, List.size_toArray, Array.size_replicate]; omega, .none (Nat.le_refl _) rfl⟩
          split at h
          · cases h
          · rename_i e s hc hne
            split at h
            · rename_i r hr
              simp only [Option.some.injEq, Prod.mk.injEq] at h
              obtain ⟨rfl, rfl⟩ := h
              refine callsIn_wide.1 (callsIn_of_wp_marks (n := 0) f1 f2 trivial ((exC_ok @ih @ihn ok fok (fun nt => @hdraw _ nt @ih @ihn) L).1 hne (ρ := none) (.inl rfl) hs0 hf (fun γ' a' w' hs' hx => ?_)))
              have hfin : LeavesInM Fence.wide 0 E.P fn a'.tmps (fun e w'' => ∃ v', e = .returned v' ∧ ∃ γ', VR γ' (oneOr r) v' ∧ Rel E γ' N s.H.bs.get w'' ∧ Nxt γ H.bs.get w H.n γ' s.H.bs.get w'' s.H.n) a'.defers .returning w' :=
                leaves_marks fok.quiet (T := fun w2 => Rel E γ' N s.H.bs.get w2 ∧ Nxt γ H.bs.get w H.n γ' s.H.bs.get w2 s.H.n) (fun {w2 D} o h1 h2 h3 => ⟨h3.1.putObj (Nat.le_trans hN h1) h2 _, h3.2.putObj h1 _⟩) a'.defers rfl hs'.defs ⟨hs'.rel, hx⟩ (fun w2 h2 => by
                  obtain ⟨v', g1, g2⟩ := results_run (a := a') ok h2.1 hs'.fr (fn := fn) (by rw [f4]; exact hr)
                  exact ⟨v', g1, v', rfl, γ', g2, h2.1, h2.2⟩)
              cases e with
              | normal => exact hfin
              | ret => exact hfin
              | exit id => exact (hc id rfl).elim
            · cases h
          · cases h
end
end Go.Proofs.YtfcfliclmjikkaaGreatDoor.Ex
