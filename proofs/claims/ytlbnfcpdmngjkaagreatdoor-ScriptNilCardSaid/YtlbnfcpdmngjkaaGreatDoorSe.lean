/- Walks of package want at one node: the top, joined with what the runner says of a copy; what answers for both. -/
import Derived.Test.YtlbnfcpdmngjkaaGreatDoorSw
import Derived.KernelRfl
namespace Go.Proofs.YtlbnfcpdmngjkaaGreatDoor
open Go Go.Proofs Go.RowKit
set_option maxRecDepth 100000
set_option linter.unusedSimpArgs false
set_option linter.unusedVariables false
set_option maxHeartbeats 1000000

theorem top_any {E : Ex.Env} (hP : E.P = Tryz.prog) {call : Ex.CallF} (hc : Ex.CallOk E call) {b o b' o' : Nat} {fl fl' : Bool} {nm : List UInt8} {v2 v3 v4 : Int} {H H1 : Ex.AH}
    (h0 : Ex.loadA H b o 5 = some [.str nm, .str [], .int .i64 v2, .int .i64 v3, .int .i64 v4]) (h1 : call 184 [.slice b o 1 5 fl] H = some (.slice b' o' 1 5 fl', H1))
    {γ : Ex.Cx} {N : Nat} {w : World} (hrel : Ex.Rel E γ N H.bs.get w) (hN : N ≤ w.heap.size) {s : Value} (hs : Ex.VR γ (.slice b o 1 5 fl) s) (hf : ∀ id, H.n ≤ id → id < H1.n → γ.loc id = none) :
    Calls Tryz.prog 123 #[s] w fun e w' => ∃ v', e = .returned v' ∧ ∃ γ', Ex.VR γ' (.slice b' o' 1 5 fl') v' ∧ Ex.Rel E γ' N H1.bs.get w' ∧ Ex.Nxt γ H.bs.get w H.n γ' H1.bs.get w' H1.n := by
  have HS := Lib.hid hs
  cases hs with
  | slice hl hle hfull hA hfit =>
  rename_i β ω σ cap A
  have hAd : A = ⟨β, ω + o, none⟩ := hA (by omega)
  subst hAd
  obtain ⟨c0, c1, c2, c3, c4⟩ := one_cells hrel h0 hl
  have MADE := Lib.hid (made_any _ _ cap _ _ _ _ w c0 c1 c2 c3 c4)
  have HREL := Lib.hid hrel
  have HF := Lib.hid hf
  clear hrel hf hl c0 c1 c2 c3 c4
  go_enter Tryz.func123, Tryz.ntmps123
  go_wp2_with fail
  refine MADE.out.mono ?_
  clear MADE
  rintro e w1 ⟨rfl, hb1⟩
  have HB1 := Lib.hid hb1
  clear hb1
  go_wp2_with fail
  have HB2 : RowKit.Hid (Below w.heap.size w (w1.alloc (.cells #[.pointer (some ⟨w.heap.size, 0, none⟩)] 311))) := HB1.out.alloc HB1.out.size _
  generalize (w1.alloc (.cells #[.pointer (some ⟨w.heap.size, 0, none⟩)] 311)) = w2 at *
  have hrel2 : Ex.Rel E γ N H.bs.get w2 := HREL.out.aside (D := w.heap.size) (Ex.Aside.of_below HB2.out) (fun id k l hk hl e => by have := (HREL.out.low hl).2; omega) hN hN
  have hsz := HB2.out.size
  refine (said hP hc Tryz.func184 (by kernel_rfl) (by decide) h1 hrel2 (by omega) (.cons HS.out .nil) HF.out).mono ?_
  rintro e w3 ⟨v, rfl, γ1, hv, hrel3, hnx3⟩
  have HR := Lib.hid hrel3
  have HN := Lib.hid (hnx3.ahead (Ex.Aside.of_below (D := w.heap.size) HB2.out) (Nat.le_refl _))
  have HV := Lib.hid hv
  clear hrel3 hnx3 hrel2
  obtain ⟨A3, cap3, rfl⟩ : ∃ A3 cap3, v = .slice A3 1 cap3 := by
    have hv := HV.out
    cases hv
    exact ⟨_, _, rfl⟩
  clear hv
  go_wp2_with fail
  refine (sort_any _ _ _ _ _).mono ?_
  rintro e w4 ⟨⟨v4, rfl⟩, rfl⟩
  go_wp2_with fail
  go_ret
  exact ⟨_, rfl, γ1, HV.out, HR.out, HN.out⟩

/-! ### Who answers -/
open Go.Proofs.YtlbnfcpdmngjkaaGreatDoor.Ex (Env Tr AV AH TI FI exF mkTys mkFns hookY)
theorem known : Ex.Known Tryz.prog 405 411 := ⟨⟨Tryz.f405, Tryz.func405, by kernel_rfl, by kernel_rfl, by kernel_rfl, by rfl⟩, ⟨Tryz.f411, Tryz.func411, by kernel_rfl, by kernel_rfl, by kernel_rfl, by rfl⟩, by kernel_rfl, by kernel_rfl, by kernel_rfl⟩
def quietF : FuncId → Bool := fun f => Nat.beq f 162
theorem quiet_ok : ∀ g, quietF g = true → Ex.QuietFn Tryz.prog g := fun g h => by
  obtain rfl := Nat.eq_of_beq_eq_true h
  exact quiet64
def globs : Tr AV := Tr.nil.set 1 (.opq 107)
/-- The runner without hooks of want. -/
noncomputable def env0 : Env := Ex.envQ Tryz.prog .nil globs (hookY 405 411) quietF
noncomputable def call0 : Ex.CallF := exF env0 100000 60
noncomputable def checkA : List AV → AH → Option (AV × AH)
  | [x], H => match oneOf x H with
    | some _ => match call0 179 [.agg [x]] H with
      | some (.int .i64 0, H1) => match oneOf x H1 with
        | some _ => match call0 182 [.agg [x]] H1 with
          | some (.int .i64 0, H2) => some (.int .i64 0, H2)
          | _ => none
        | none => none
      | _ => none
    | none => none
  | _, _ => none
noncomputable def topA : List AV → AH → Option (AV × AH)
  | [x], H => match oneOf x H with
    | some _ => match call0 184 [x] H with
      | some (.slice b o n es fl, H1) => if n = 1 ∧ es = 5 then some (.slice b o n es fl, H1) else none
      | _ => none
    | none => none
  | _, _ => none
noncomputable def hookW : FuncId → List AV → AH → Option (AV × AH) := fun f args H =>
  match Nat.beq f 122 with
  | true => checkA args H
  | false => match Nat.beq f 123 with
    | true => topA args H
    | false => hookY 405 411 f args H
noncomputable def fns : Tr FI := ((mkFns 0 Tryz.prog.funcs.toList .nil).del 122).del 123
noncomputable def env1 : Env := { P := Tryz.prog, ty := mkTys Tryz.prog 0 Tryz.prog.types.size .nil, fn := fns, syms := .nil, globs := globs, hook := hookW, quiet := quietF }

theorem ty0 : Ex.TyOk env0 := Ex.envQ_ty _ _ _ _ _
theorem fn0 : Ex.FnOk env0 := Ex.envQ_fn _ _ _ _ quiet_ok
theorem hook0 : Ex.HookOk env0 := Ex.hookY_ok (E := env0) (ib := 405) (cs := 411) rfl known.byteFn known.countFn
theorem hnum0 : Ex.HookNum env0 := Ex.hookY_num (E := env0) (ib := 405) (cs := 411) rfl
theorem call0_ok : Ex.CallOk env0 call0 := Ex.exF_ok ty0 fn0 hook0 hnum0 (fun hcall hnum => Ex.draw_ok ty0 known.mixed hcall hnum) 60
theorem call0_num : Ex.NumOk call0 := Ex.exF_num hnum0 60
theorem ty1 : Ex.TyOk env1 := ⟨fun {t i} h => ty0.ty h⟩
theorem fn1 : Ex.FnOk env1 := ⟨fun {f i} h => by
  have h1 := Tr.get_del_some _ (show (((mkFns 0 Tryz.prog.funcs.toList .nil).del 122).del 123).get f = some i from h)
  have h2 := Tr.get_del_some _ h1.2
  exact fn0.fn h2.2, quiet_ok⟩
theorem back {γ : Ex.Cx} {N : Nat} {H : Ex.HM} {w : World} (h : Ex.Rel env1 γ N H w) : Ex.Rel env0 γ N H w := ⟨h.blk, h.low, h.inj, h.glob, h.sym⟩
theorem forth {γ : Ex.Cx} {N : Nat} {H : Ex.HM} {w : World} (h : Ex.Rel env0 γ N H w) : Ex.Rel env1 γ N H w := ⟨h.blk, h.low, h.inj, h.glob, h.sym⟩
theorem hnum1 : Ex.HookNum env1 := fun {f xs H H' v} e0 => by
  have e : hookW f xs H = some (v, H') := e0
  clear e0
  unfold hookW at e
  split at e
  · unfold checkA at e
    split at e
    · split at e
      · split at e
        · rename_i h1
          split at e
          · split at e
            · rename_i h2
              simp only [Option.some.injEq, Prod.mk.injEq] at e
              rw [← e.2]
              exact Nat.le_trans (call0_num h1) (call0_num h2)
            · cases e
          · cases e
        · cases e
      · cases e
    · cases e
  · split at e
    · unfold topA at e
      split at e
      · split at e
        · split at e
          · rename_i h1
            split at e
            · simp only [Option.some.injEq, Prod.mk.injEq] at e
              rw [← e.2]
              exact call0_num h1
            · cases e
          · cases e
        · cases e
      · cases e
    · exact Ex.hookY_num (E := env0) (ib := 405) (cs := 411) rfl e
theorem calls_callWp {f : FuncId} {fn : Func} {args : List Value} {w : World} {K : Value → World → Prop} (h1 : Tryz.prog.funcs[f]? = some fn) (h2 : fn.body.isSome = true) (h3 : fn.name ≠ "runtime.NumGoroutine") (h : Calls Tryz.prog f args.toArray w fun e w' => ∃ v, e = .returned v ∧ K v w') : Ex.CallWp Tryz.prog f args w K := by
  obtain ⟨c, h2⟩ := Option.isSome_iff_exists.1 h2
  unfold Ex.CallWp
  rw [Ex.callFunc_run h1 h2 h3]
  exact h
theorem hook1 : Ex.HookOk env1 := fun {f args H H' v} e0 {γ N w args'} hrel hN hargs hf => by
  have e : hookW f args H = some (v, H') := e0
  clear e0
  show Ex.CallWp Tryz.prog f args' w _
  unfold hookW at e
  split at e
  · rename_i hq
    obtain rfl := Nat.eq_of_beq_eq_true hq
    unfold checkA at e
    split at e
    · rename_i x
      split at e
      · rename_i q hx
        split at e
        · rename_i H1 h1
          split at e
          · rename_i q' hx'
            split at e
            · rename_i H2 h2
              simp only [Option.some.injEq, Prod.mk.injEq] at e
              obtain ⟨rfl, rfl⟩ := e
              obtain ⟨b, o, fl, nm, v2, v3, v4⟩ := q
              obtain ⟨b', o', fl', nm', v2', v3', v4'⟩ := q'
              obtain ⟨rfl, hl⟩ := oneOf_ok hx
              obtain ⟨he, hl'⟩ := oneOf_ok hx'
              simp only [Ex.AV.slice.injEq] at he
              obtain ⟨rfl, rfl, _, _, rfl⟩ := he
              cases hargs with
              | cons hs hn =>
                cases hn
                refine calls_callWp Tryz.func122 (by kernel_rfl) (by decide) ?_
                refine (check_any (E := env0) rfl call0_ok call0_num (fl' := fl) hl h1 hl' h2 (back hrel) hN hs hf).mono ?_
                rintro e w' ⟨v', rfl, γ', a, b, c⟩
                exact ⟨v', rfl, γ', a, forth b, c⟩
            · cases e
          · cases e
        · cases e
      · cases e
    · cases e
  · split at e
    · rename_i hq
      obtain rfl := Nat.eq_of_beq_eq_true hq
      unfold topA at e
      split at e
      · rename_i x
        split at e
        · rename_i q hx
          split at e
          · rename_i b' o' n es fl' H1 h1
            split at e
            · rename_i hne
              simp only [Option.some.injEq, Prod.mk.injEq] at e
              obtain ⟨rfl, rfl⟩ := e
              obtain ⟨rfl, rfl⟩ := hne
              obtain ⟨b, o, fl, nm, v2, v3, v4⟩ := q
              obtain ⟨rfl, hl⟩ := oneOf_ok hx
              cases hargs with
              | cons hs hn =>
                cases hn
                refine calls_callWp Tryz.func123 (by kernel_rfl) (by decide) ?_
                refine (top_any (E := env0) rfl call0_ok hl h1 (back hrel) hN hs hf).mono ?_
                rintro e w' ⟨v', rfl, γ', a, b, c⟩
                exact ⟨v', rfl, γ', a, forth b, c⟩
            · cases e
          · cases e
        · cases e
      · cases e
    · have := hook0 (f := f) (args := args) e (back hrel) hN hargs hf
      exact Ex.callWp_mono this fun v' w' ⟨γ', a, b, c⟩ => ⟨γ', a, forth b, c⟩
theorem only1 {f : FuncId} {i : FI} (hf : env1.fn.get f = some i) (args : List AV) (H : AH) : env1.hook f args H = none := by
  have h1 := Tr.get_del_some _ (show (((mkFns 0 Tryz.prog.funcs.toList .nil).del 122).del 123).get f = some i from hf)
  have h2 := Tr.get_del_some _ h1.2
  show hookW f args H = none
  unfold hookW
  have q1 : Nat.beq f 122 = false := by
    cases hq : Nat.beq f 122 with
    | false => rfl
    | true => exact absurd (Nat.eq_of_beq_eq_true hq).symm h2.1
  have q2 : Nat.beq f 123 = false := by
    cases hq : Nat.beq f 123 with
    | false => rfl
    | true => exact absurd (Nat.eq_of_beq_eq_true hq).symm h1.1
  rw [q1, q2]
  simp only
  unfold hookY
  split
  · rename_i hq
    have := h2.2
    rw [Nat.eq_of_beq_eq_true hq, known.noCount] at this
    cases this
  · exact Ex.hookX_fn (E := { env0 with hook := Ex.hookX 405 }) (ib := 405) rfl known.noByte h2.2 args H
end Go.Proofs.YtlbnfcpdmngjkaaGreatDoor
