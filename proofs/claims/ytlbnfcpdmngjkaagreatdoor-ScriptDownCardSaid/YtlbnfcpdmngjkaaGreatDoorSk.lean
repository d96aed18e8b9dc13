/- Walks of package want at one node: the top, joined with what the runner says of a copy; what answers for both. -/
import Derived.Test.YtlbnfcpdmngjkaaGreatDoorXh
import Derived.KernelRfl
namespace Go.Proofs.YtlbnfcpdmngjkaaGreatDoor
open Go Go.Proofs Go.RowKit
set_option maxRecDepth 100000
set_option linter.unusedSimpArgs false
set_option linter.unusedVariables false
set_option maxHeartbeats 1000000

theorem top_any {E : Ex.Env} (hP : E.P = Tryz.prog) {call : Ex.CallF} (hc : Ex.CallOk E call) {b o b' o' : Nat} {fl fl' : Bool} {nm : List UInt8} {v2 v3 v4 : Int} {H H1 : Ex.AH}
    (h0 : Ex.loadA H b o 5 = some [.str nm, .str [], .int .i64 v2, .int .i64 v3, .int .i64 v4]) (h1 : call 184 [.slice b o 1 5 fl] H = some (.slice b' o' 1 5 fl', H1))
    {γ : Ex.Cx} {N : Nat} {w : World} (hrel : Ex.Rel E γ N H.bs.get w) (hN : N ≤ w.heap.size) {s : Value} (hs : Ex.VR γ (.slice b o 1 5 fl) s) (hf : ∀ id, H.n ≤ id → id < H1.n → γ.loc id = none) :
    Calls Tryz.prog 123 #[s] w fun e w' => ∃ v', e = .returned v' ∧ ∃ γ', Ex.VR γ' (.slice b' o' 1 5 fl') v' ∧ Ex.Rel E γ' N H1.bs.get w' ∧ Ex.Nxt γ H.bs.get w H.n γ' H1.bs.get w' H1.n := by
  have HS := Lib.hid hs
  cases hs with
  | slice hl hle hfull hA hfit =>
  rename_i β ω σ cap A
  have hAd : A = ⟨β, ω + o, none⟩ := hA (by omega)
  subst hAd
  obtain ⟨c0, c1, c2, c3, c4⟩ := one_cells hrel h0 hl
  have MADE := Lib.hid (made_any _ _ cap _ _ _ _ w c0 c1 c2 c3 c4)
  have HREL := Lib.hid hrel
  have HF := Lib.hid hf
  clear hrel hf hl c0 c1 c2 c3 c4
  go_enter Tryz.func123, Tryz.ntmps123
  go_wp2_with fail
  refine MADE.out.mono ?_
  clear MADE
  rintro e w1 ⟨rfl, hb1⟩
  have HB1 := Lib.hid hb1
  clear hb1
  go_wp2_with fail
  have HB2 : RowKit.Hid (Below w.heap.size w (w1.alloc (.cells #[.pointer (some ⟨w.heap.size, 0, none⟩)] 311))) := HB1.out.alloc HB1.out.size _
  generalize (w1.alloc (.cells #[.pointer (some ⟨w.heap.size, 0, none⟩)] 311)) = w2 at *
  have hrel2 : Ex.Rel E γ N H.bs.get w2 := HREL.out.aside (D := w.heap.size) (Ex.Aside.of_below HB2.out) (fun id k l hk hl e => by have := (HREL.out.low hl).2; omega) hN hN
  have hsz := HB2.out.size
  refine (said hP hc Tryz.func184 (by kernel_rfl) (by decide) h1 hrel2 (by omega) (.cons HS.out .nil) HF.out).mono ?_
  rintro e w3 ⟨v, rfl, γ1, hv, hrel3, hnx3⟩
  have HR := Lib.hid hrel3
  have HN := Lib.hid (hnx3.ahead (Ex.Aside.of_below (D := w.heap.size) HB2.out) (Nat.le_refl _))
  have HV := Lib.hid hv
  clear hrel3 hnx3 hrel2
  obtain ⟨A3, cap3, rfl⟩ : ∃ A3 cap3, v = .slice A3 1 cap3 := by
    have hv := HV.out
    cases hv
    exact ⟨_, _, rfl⟩
  clear hv
  go_wp2_with fail
  refine (sort_any _ _ _ _ _).mono ?_
  rintro e w4 ⟨⟨v4, rfl⟩, rfl⟩
  go_wp2_with fail
  go_ret
  exact ⟨_, rfl, γ1, HV.out, HR.out, HN.out⟩

/-! ### Who answers -/
open Go.Proofs.YtlbnfcpdmngjkaaGreatDoor.Ex (Env Tr AV AH TI FI exF mkTys mkFns hookY)
theorem known : Ex.Known Tryz.prog 405 411 := ⟨⟨Tryz.f405, Tryz.func405, by kernel_rfl, by kernel_rfl, by kernel_rfl, by rfl⟩, ⟨Tryz.f411, Tryz.func411, by kernel_rfl, by kernel_rfl, by kernel_rfl, by rfl⟩, by kernel_rfl, by kernel_rfl, by kernel_rfl⟩
def quietF : FuncId → Bool := fun f => Nat.beq f 162
theorem quiet_ok : ∀ g, quietF g = true → Ex.QuietFn Tryz.prog g := fun g h => by
  obtain rfl := Nat.eq_of_beq_eq_true h
  exact quiet64
def globs : Tr AV := Tr.nil.set 1 (.opq 107)
/-- A table of some types alone. -/
def mkSome (P : Program) : List Nat → Tr TI → Tr TI
  | [], t => t
  | i :: l, t => mkSome P l (match Ex.tiOf P i with
    | some x => t.set i x
    | none => t)
theorem mkSome_ok {P : Program} : ∀ (l : List Nat) (t : Tr TI), (∀ {j x}, t.get j = some x → Ex.tiOf P j = some x) → ∀ {j x}, (mkSome P l t).get j = some x → Ex.tiOf P j = some x
  | [], t, h, j, x, hx => h hx
  | i :: l, t, h, j, x, hx => by
    simp only [mkSome] at hx
    refine mkSome_ok l _ (fun {j x} e => ?_) hx
    split at e
    · rename_i y hy
      rw [Tr.get_set] at e
      split at e
      · rename_i q; subst q; rw [hy]; exact e
      · exact h e
    · exact h e
noncomputable def tys : Tr TI := mkSome Tryz.prog [0, 1, 2, 3, 4, 5, 9, 20, 21, 23, 25, 27, 29, 30, 31, 33, 35, 37, 39, 41, 42, 44, 48, 50, 60, 61, 63, 66, 75, 76, 78, 79, 81, 86, 89, 92, 93, 95, 97, 100, 102, 103, 105, 106, 108, 113, 116, 118, 125, 127, 135, 138, 140, 142, 143, 145, 146, 161, 169, 170, 172, 174, 176, 187, 188, 190, 192, 196, 197, 199, 201, 203, 204, 206, 208, 209, 211, 213, 216, 218, 220, 222, 223, 224, 226, 228, 230, 231, 233, 236, 238, 246, 248, 249, 262, 264, 267, 273, 276, 277, 285, 286, 291, 293, 297, 299, 300, 301, 306, 311, 313, 314, 316, 320, 321, 322, 324, 325, 328, 331, 336, 338, 339, 342, 348, 353, 355, 356, 358, 364, 366, 368, 370, 372, 377, 379, 385, 386, 387, 392, 394, 405, 417, 418, 420, 425, 428, 430, 432, 435, 437, 440, 445, 447, 460, 461, 464, 468, 471, 473, 478, 480, 481, 488, 489, 493, 499, 507, 508, 521, 522, 526, 529, 548, 565] .nil
/-- The runner without hooks of want. -/
noncomputable def env0 (sy : Tr (Int × Int)) : Env := { Ex.envQ Tryz.prog sy globs (hookY 405 411) quietF with ty := tys }
noncomputable def call0 (sy : Tr (Int × Int)) : Ex.CallF := exF (env0 sy) 100000 60
noncomputable def checkA (sy : Tr (Int × Int)) : List AV → AH → Option (AV × AH)
  | [x], H => match oneOf x H with
    | some _ => match (call0 sy) 179 [.agg [x]] H with
      | some (.int .i64 0, H1) => match oneOf x H1 with
        | some _ => match (call0 sy) 182 [.agg [x]] H1 with
          | some (.int .i64 0, H2) => some (.int .i64 0, H2)
          | _ => none
        | none => none
      | _ => none
    | none => none
  | _, _ => none
noncomputable def topA (sy : Tr (Int × Int)) : List AV → AH → Option (AV × AH)
  | [x], H => match oneOf x H with
    | some _ => match (call0 sy) 184 [x] H with
      | some (.slice b o n es fl, H1) => if n = 1 ∧ es = 5 then some (.slice b o n es fl, H1) else none
      | _ => none
    | none => none
  | _, _ => none
/-- shape.Create of an item ahead of one: what the walk says of it; else the runner. -/
noncomputable def createB (sy : Tr (Int × Int)) (b o : Nat) (fl : Bool) (p q r : AV) (H : AH) : Option (AV × AH) :=
  match (call0 sy) 96 [.slice b o 1 12 fl, .str [97]] H with
  | some (.agg [.slice b1 o1 n1 es1 fl1, .int k a], H1) => if n1 = 1 ∧ es1 = 12 ∧ k = .i64 ∧ a = -1 then
      match (call0 sy) 43 [.agg [p, q, r]] H1 with
      | some (.bool true, H2) => match (call0 sy) 97 [.agg [.slice b1 o1 1 12 fl1, .int .i64 (-1)], .str []] H2 with
        | some (.bool true, H3) => match Ex.loadA H3 b o 12 with
          | some (.str n0 :: _) => if n0 = [98] then match Ex.loadA H3 b1 o1 12 with
              | some l1 => if l1.all Ex.okc = true ∧ Ex.okc p = true ∧ Ex.okc q = true ∧ Ex.okc r = true then
                  some (.tup [.slice H3.n 0 2 12 false, .int .i64 0], ⟨H3.n + 1, (H3.bs.del b1).set H3.n ⟨24, Tr.nil.put 0 ([.str [97], .str [], p, q, r, .int .i64 0, .int .i64 0, .int .i64 0, .int .i64 0, .int .i64 0, .int .i64 0, .int .i64 1] ++ l1)⟩⟩)
                else none
              | none => none
            else none
          | _ => none
        | _ => none
      | _ => none
    else none
  | _ => none
noncomputable def createA (sy : Tr (Int × Int)) (args : List AV) (H : AH) : Option (AV × AH) :=
  match args with
  | [.slice b o n es fl, .str nm, .str par, .agg [p, q, r]] => if n = 1 ∧ es = 12 ∧ nm = [97] ∧ par = [] then (createB sy) b o fl p q r H else (call0 sy) 53 args H
  | _ => (call0 sy) 53 args H
noncomputable def hookW (sy : Tr (Int × Int)) : FuncId → List AV → AH → Option (AV × AH) := fun f args H =>
  match Nat.beq f 122 with
  | true => (checkA sy) args H
  | false => match Nat.beq f 123 with
    | true => (topA sy) args H
    | false => match Nat.beq f 53 with
      | true => (createA sy) args H
      | false => hookY 405 411 f args H
noncomputable def fns : Tr FI := (((mkFns 0 Tryz.prog.funcs.toList .nil).del 122).del 123).del 53
noncomputable def env1 (sy : Tr (Int × Int)) : Env := { P := Tryz.prog, ty := tys, fn := fns, syms := sy, globs := globs, hook := (hookW sy), quiet := quietF }

theorem ty0 (sy : Tr (Int × Int)) : Ex.TyOk (env0 sy) := ⟨fun {t i} h => mkSome_ok _ _ (fun e => (by rw [Tr.get_nil] at e; cases e)) h⟩
theorem fn0 (sy : Tr (Int × Int)) : Ex.FnOk (env0 sy) := ⟨fun {f i} h => (Ex.envQ_fn Tryz.prog sy globs (hookY 405 411) quiet_ok).fn h, quiet_ok⟩
theorem hook0 (sy : Tr (Int × Int)) : Ex.HookOk (env0 sy) := Ex.hookY_ok (E := env0 sy) (ib := 405) (cs := 411) rfl known.byteFn known.countFn
theorem hnum0 (sy : Tr (Int × Int)) : Ex.HookNum (env0 sy) := Ex.hookY_num (E := env0 sy) (ib := 405) (cs := 411) rfl
theorem call0_ok (sy : Tr (Int × Int)) : Ex.CallOk (env0 sy) (call0 sy) := Ex.exF_ok (ty0 sy) (fn0 sy) (hook0 sy) (hnum0 sy) (fun hcall hnum => Ex.draw_ok (ty0 sy) known.mixed hcall hnum) 60
theorem call0_num (sy : Tr (Int × Int)) : Ex.NumOk (call0 sy) := Ex.exF_num (hnum0 sy) 60
theorem ty1 (sy : Tr (Int × Int)) : Ex.TyOk (env1 sy) := ⟨fun {t i} h => (ty0 sy).ty h⟩
theorem fn1 (sy : Tr (Int × Int)) : Ex.FnOk (env1 sy) := ⟨fun {f i} h => by
  have h0 := Tr.get_del_some _ (show ((((mkFns 0 Tryz.prog.funcs.toList .nil).del 122).del 123).del 53).get f = some i from h)
  have h1 := Tr.get_del_some _ h0.2
  have h2 := Tr.get_del_some _ h1.2
  exact (fn0 sy).fn h2.2, quiet_ok⟩
theorem back (sy : Tr (Int × Int)) {γ : Ex.Cx} {N : Nat} {H : Ex.HM} {w : World} (h : Ex.Rel (env1 sy) γ N H w) : Ex.Rel (env0 sy) γ N H w := ⟨h.blk, h.low, h.inj, h.glob, h.sym⟩
theorem forth (sy : Tr (Int × Int)) {γ : Ex.Cx} {N : Nat} {H : Ex.HM} {w : World} (h : Ex.Rel (env0 sy) γ N H w) : Ex.Rel (env1 sy) γ N H w := ⟨h.blk, h.low, h.inj, h.glob, h.sym⟩
theorem createB_num (sy : Tr (Int × Int)) {b o : Nat} {fl : Bool} {p q r : AV} {H H' : AH} {v : AV} (e : (createB sy) b o fl p q r H = some (v, H')) : H.n ≤ H'.n := by
  unfold createB at e
  split at e
  · rename_i h1
    split at e
    · split at e
      · rename_i h2
        split at e
        · rename_i h3
          split at e
          · split at e
            · split at e
              · split at e
                · simp only [Option.some.injEq, Prod.mk.injEq] at e
                  rw [← e.2]
                  have := (call0_num sy) h1
                  have := (call0_num sy) h2
                  have := (call0_num sy) h3
                  simp only
                  omega
                · cases e
              · cases e
            · cases e
          · cases e
        · cases e
      · cases e
    · cases e
  · cases e
theorem createA_num (sy : Tr (Int × Int)) {args : List AV} {H H' : AH} {v : AV} (e : (createA sy) args H = some (v, H')) : H.n ≤ H'.n := by
  unfold createA at e
  split at e
  · split at e
    · exact (createB_num sy) e
    · exact (call0_num sy) e
  · exact (call0_num sy) e
theorem hnum1 (sy : Tr (Int × Int)) : Ex.HookNum (env1 sy) := fun {f xs H H' v} e0 => by
  have e : (hookW sy) f xs H = some (v, H') := e0
  clear e0
  unfold hookW at e
  split at e
  · unfold checkA at e
    split at e
    · split at e
      · split at e
        · rename_i h1
          split at e
          · split at e
            · rename_i h2
              simp only [Option.some.injEq, Prod.mk.injEq] at e
              rw [← e.2]
              exact Nat.le_trans ((call0_num sy) h1) ((call0_num sy) h2)
            · cases e
          · cases e
        · cases e
      · cases e
    · cases e
  · split at e
    · unfold topA at e
      split at e
      · split at e
        · split at e
          · rename_i h1
            split at e
            · simp only [Option.some.injEq, Prod.mk.injEq] at e
              rw [← e.2]
              exact (call0_num sy) h1
            · cases e
          · cases e
        · cases e
      · cases e
    · split at e
      · exact (createA_num sy) e
      · exact Ex.hookY_num (E := env0 sy) (ib := 405) (cs := 411) rfl e
theorem calls_callWp {f : FuncId} {fn : Func} {args : List Value} {w : World} {K : Value → World → Prop} (h1 : Tryz.prog.funcs[f]? = some fn) (h2 : fn.body.isSome = true) (h3 : fn.name ≠ "runtime.NumGoroutine") (h : Calls Tryz.prog f args.toArray w fun e w' => ∃ v, e = .returned v ∧ K v w') : Ex.CallWp Tryz.prog f args w K := by
  obtain ⟨c, h2⟩ := Option.isSome_iff_exists.1 h2
  unfold Ex.CallWp
  rw [Ex.callFunc_run h1 h2 h3]
  exact h
theorem createA_ok (sy : Tr (Int × Int)) {args : List AV} {H H' : AH} {v : AV} (e : (createA sy) args H = some (v, H')) {γ : Ex.Cx} {N : Nat} {w : World} {args' : List Value} (hrel : Ex.Rel (env1 sy) γ N H.bs.get w) (hN : N ≤ w.heap.size) (hargs : Ex.VRs γ args args')
    (hf : ∀ id, H.n ≤ id → id < H'.n → γ.loc id = none) : Ex.CallWp Tryz.prog 53 args' w fun v' w' => ∃ γ', Ex.VR γ' v v' ∧ Ex.Rel (env1 sy) γ' N H'.bs.get w' ∧ Ex.Nxt γ H.bs.get w H.n γ' H'.bs.get w' H'.n := by
  have key : (call0 sy) 53 args H = some (v, H') → Ex.CallWp Tryz.prog 53 args' w fun v' w' => ∃ γ', Ex.VR γ' v v' ∧ Ex.Rel (env1 sy) γ' N H'.bs.get w' ∧ Ex.Nxt γ H.bs.get w H.n γ' H'.bs.get w' H'.n := fun e =>
    Ex.callWp_mono ((call0_ok sy) e ((back sy) hrel) hN hargs hf) fun v' w' ⟨γ', a, b, c⟩ => ⟨γ', a, (forth sy) b, c⟩
  unfold createA at e
  split at e
  · rename_i b o n es fl nm par p q r
    split at e
    · rename_i hx
      obtain ⟨rfl, rfl, rfl, rfl⟩ := hx
      clear key
      unfold createB at e
      split at e
      · rename_i b1 o1 n1 es1 fl1 k a H1 h1
        split at e
        · rename_i hx
          obtain ⟨rfl, rfl, rfl, rfl⟩ := hx
          split at e
          · rename_i H2 h2
            split at e
            · rename_i H3 h3
              split at e
              · rename_i n0 rest h4
                split at e
                · rename_i hx
                  subst hx
                  split at e
                  · rename_i l1 h5
                    split at e
                    · rename_i hx
                      obtain ⟨hall, hpo, hqo, hro⟩ := hx
                      simp only [Option.some.injEq, Prod.mk.injEq] at e
                      obtain ⟨rfl, rfl⟩ := e
                      obtain ⟨s, a1, rfl, hs, r1⟩ := vrs_cons hargs
                      obtain ⟨x1, a2, rfl, hx1, r2⟩ := vrs_cons r1
                      obtain ⟨x2, a3, rfl, hx2, r3⟩ := vrs_cons r2
                      obtain ⟨x3, a4, rfl, hx3, r4⟩ := vrs_cons r3
                      obtain rfl := vrs_nil r4
                      obtain ⟨p', q', r', rfl, hp, hq, hr⟩ := vr_agg3 hx3
                      cases hx1
                      cases hx2
                      refine calls_callWp Tryz.func53 (by kernel_rfl) (by decide) ?_
                      refine (create_any (E := env0 sy) rfl (call0_ok sy) (call0_num sy) h1 h2 h3 h4 h5 hall hpo hqo hro ((back sy) hrel) hN hs hp hq hr hf).mono ?_
                      rintro e w' ⟨v', rfl, γ', a, b, c⟩
                      exact ⟨v', rfl, γ', a, (forth sy) b, c⟩
                    · cases e
                  · cases e
                · cases e
              · cases e
            · cases e
          · cases e
        · cases e
      · cases e
    · exact key e
  · exact key e
theorem hook1 (sy : Tr (Int × Int)) : Ex.HookOk (env1 sy) := fun {f args H H' v} e0 {γ N w args'} hrel hN hargs hf => by
  have e : (hookW sy) f args H = some (v, H') := e0
  clear e0
  show Ex.CallWp Tryz.prog f args' w _
  unfold hookW at e
  split at e
  · rename_i hq
    obtain rfl := Nat.eq_of_beq_eq_true hq
    unfold checkA at e
    split at e
    · rename_i x
      split at e
      · rename_i q hx
        split at e
        · rename_i H1 h1
          split at e
          · rename_i q' hx'
            split at e
            · rename_i H2 h2
              simp only [Option.some.injEq, Prod.mk.injEq] at e
              obtain ⟨rfl, rfl⟩ := e
              obtain ⟨b, o, fl, nm, v2, v3, v4⟩ := q
              obtain ⟨b', o', fl', nm', v2', v3', v4'⟩ := q'
              obtain ⟨rfl, hl⟩ := oneOf_ok hx
              obtain ⟨he, hl'⟩ := oneOf_ok hx'
              simp only [Ex.AV.slice.injEq] at he
              obtain ⟨rfl, rfl, _, _, rfl⟩ := he
              cases hargs with
              | cons hs hn =>
                cases hn
                refine calls_callWp Tryz.func122 (by kernel_rfl) (by decide) ?_
                refine (check_any (E := env0 sy) rfl (call0_ok sy) (call0_num sy) (fl' := fl) hl h1 hl' h2 ((back sy) hrel) hN hs hf).mono ?_
                rintro e w' ⟨v', rfl, γ', a, b, c⟩
                exact ⟨v', rfl, γ', a, (forth sy) b, c⟩
            · cases e
          · cases e
        · cases e
      · cases e
    · cases e
  · split at e
    · rename_i hq
      obtain rfl := Nat.eq_of_beq_eq_true hq
      unfold topA at e
      split at e
      · rename_i x
        split at e
        · rename_i q hx
          split at e
          · rename_i b' o' n es fl' H1 h1
            split at e
            · rename_i hne
              simp only [Option.some.injEq, Prod.mk.injEq] at e
              obtain ⟨rfl, rfl⟩ := e
              obtain ⟨rfl, rfl⟩ := hne
              obtain ⟨b, o, fl, nm, v2, v3, v4⟩ := q
              obtain ⟨rfl, hl⟩ := oneOf_ok hx
              cases hargs with
              | cons hs hn =>
                cases hn
                refine calls_callWp Tryz.func123 (by kernel_rfl) (by decide) ?_
                refine (top_any (E := env0 sy) rfl (call0_ok sy) hl h1 ((back sy) hrel) hN hs hf).mono ?_
                rintro e w' ⟨v', rfl, γ', a, b, c⟩
                exact ⟨v', rfl, γ', a, (forth sy) b, c⟩
            · cases e
          · cases e
        · cases e
      · cases e
    · split at e
      · rename_i hq
        obtain rfl := Nat.eq_of_beq_eq_true hq
        exact (createA_ok sy) e hrel hN hargs hf
      · have HK : Ex.HookOk (env0 sy) := hook0 sy
        have := @HK f args H _ _ e γ N w args' ((back sy) hrel) hN hargs hf
        exact Ex.callWp_mono this fun v' w' ⟨γ', a, b, c⟩ => ⟨γ', a, (forth sy) b, c⟩
theorem only1 (sy : Tr (Int × Int)) {f : FuncId} {i : FI} (hf : (env1 sy).fn.get f = some i) (args : List AV) (H : AH) : (env1 sy).hook f args H = none := by
  have h0 := Tr.get_del_some _ (show ((((mkFns 0 Tryz.prog.funcs.toList .nil).del 122).del 123).del 53).get f = some i from hf)
  have h1 := Tr.get_del_some _ h0.2
  have h2 := Tr.get_del_some _ h1.2
  show (hookW sy) f args H = none
  unfold hookW
  have q1 : Nat.beq f 122 = false := by
    cases hq : Nat.beq f 122 with
    | false => rfl
    | true => exact absurd (Nat.eq_of_beq_eq_true hq).symm h2.1
  have q2 : Nat.beq f 123 = false := by
    cases hq : Nat.beq f 123 with
    | false => rfl
    | true => exact absurd (Nat.eq_of_beq_eq_true hq).symm h1.1
  have q3 : Nat.beq f 53 = false := by
    cases hq : Nat.beq f 53 with
    | false => rfl
    | true => exact absurd (Nat.eq_of_beq_eq_true hq).symm h0.1
  rw [q1, q2, q3]
  simp only
  unfold hookY
  split
  · rename_i hq
    have := h2.2
    rw [Nat.eq_of_beq_eq_true hq, known.noCount] at this
    cases this
  · exact Ex.hookX_fn (E := { env0 sy with hook := Ex.hookX 405 }) (ib := 405) rfl known.noByte h2.2 args H
/-! ### ScriptDown by cases -/
noncomputable def caseS (bs : List (Int × Int)) (ars : List Ex.Ar) : Bool := Ex.fastB tys fns (env1 (Tr.nil.put 0 bs)) 100000 60 3 (Ex.avsOf 0 ars)
theorem caseS_law {bs : List (Int × Int)} {ars : List Ex.Ar} (h : caseS bs ars = true) {qs : List Int} {vs : List Value} (hl : vs.length ≤ 100) (ha : Ex.ArsOk bs ars qs vs) {w : World} {rv : Value} (hsz : 1 < w.heap.size) (hrv : w.cell? ⟨1, 0, none⟩ = some rv) (h1 : rv.oneCell' = true) :
    Calls Tryz.prog 3 vs.toArray w fun e w' => e = .returned (.bool true) ∧ RowKit.Below w.heap.size w w' := by
  refine Ex.fast_law (E := env1 (Tr.nil.put 0 bs)) (γ := ⟨fun _ => none, fun i => qs.getD i 0, fun i => if i = 107 then rv else vs.getD i .nilIface⟩) (ty1 _) (fn1 _) (hook1 _) (hnum1 _) (only1 _) known.mixed (L := 100000) (n := 60) (f := 3) (fn := Tryz.f3) Tryz.func3 (by kernel_rfl) (by kernel_rfl) h (fun _ => rfl) (fun {i lo hi} hi' => ?_)
    (Ex.avsOf_ok ha 0 (fun i => by rw [Nat.zero_add]) (fun i v hv => ?_)) (fun {g v} hg => ?_)
  · have hi' : ((Tr.nil : Tr (Int × Int)).put 0 bs).get i = some (lo, hi) := hi'
    rw [Ex.Tr.get_put] at hi'
    split at hi'
    · exact Ex.argBounds_ok ha i lo hi (by simpa using hi')
    · rw [Ex.Tr.get_nil] at hi'; cases hi'
  · have hi : i < vs.length := (List.getElem?_eq_some_iff.1 hv).1
    show (if 0 + i = 107 then rv else vs.getD (0 + i) .nilIface) = v
    rw [if_neg (by omega), Nat.zero_add, List.getD_eq_getElem?_getD, hv]
    rfl
  · have hg : globs.get g = some v := hg
    unfold globs at hg
    rw [Ex.Tr.get_set] at hg
    split at hg
    · rename_i e
      subst e
      obtain rfl : Ex.AV.opq 107 = v := Option.some.inj hg
      exact ⟨hsz, rv, hrv, by have := Ex.VR.opq (γ := ⟨fun _ => none, fun i => qs.getD i 0, fun i => if i = 107 then rv else vs.getD i .nilIface⟩) 107 h1; exact this⟩
    · rw [Ex.Tr.get_nil] at hg; cases hg
end Go.Proofs.YtlbnfcpdmngjkaaGreatDoor
