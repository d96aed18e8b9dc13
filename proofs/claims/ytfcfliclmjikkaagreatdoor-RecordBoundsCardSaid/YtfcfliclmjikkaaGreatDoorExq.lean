/- The plain runner: one operation within a region, its call gone through. -/
import Derived.Test.YtfcfliclmjikkaaGreatDoorExp
import Derived.LoopNIn
import Derived.Scope
import Derived.CallsIn
import Derived.TacticsIn
import Derived.RangeFuncLeaves
import Derived.RangeFuncRecord
namespace Go.Proofs.YtfcfliclmjikkaaGreatDoor.Ex
open Go
set_option linter.unusedVariables false
set_option linter.unusedSimpArgs false

/-- A call, and what becomes of it; some of Go's functions answer at once. -/
def CallWp (P : Program) (f : FuncId) (args : List Value) (w : World) (K : Value → World → Prop) : Prop :=
  match (callFunc f args.toArray).run P w with
  | .ok (.value v) w' => K v w'
  | .ok (.enter g as) w' => Calls P g as w' fun e w'' => ∃ v, e = .returned v ∧ K v w''
  | _ => False
def CallOk (E : Env) (call : CallF) : Prop :=
  ∀ {f : FuncId} {args : List AV} {H H' : AH} {v : AV}, call f args H = some (v, H') → ∀ {γ : Cx} {N : Nat} {w : World} {args' : List Value}, Rel E γ N H.bs.get w → N ≤ w.heap.size → VRs γ args args' →
    (∀ id, H.n ≤ id → id < H'.n → γ.loc id = none) → CallWp E.P f args' w fun v' w' => ∃ γ', VR γ' v v' ∧ Rel E γ' N H'.bs.get w' ∧ Nxt γ H.bs.get w H.n γ' H'.bs.get w' H'.n

/-- The fence that lets all in, in a round or out of one. -/
abbrev rd (ρ : Option Nat) : Fence := { Fence.wide with round := ρ }
/-- What an activation has to do at its end: nothing but shut what loops over functions have laid; that is none of the runner's memory. -/
def IsQuiet (Z : FuncId → Bool) (d : Deferred) : Prop := ∃ g x, Z g = true ∧ d = { target := .fn (.func g) #[x], args := #[] }
/-- A function that does nothing where it is deferred and nothing has failed. -/
def QuietFn (P : Program) (g : FuncId) : Prop := ∀ (x : Value) (w : World), (callFunc g #[x]).run P w = .ok (.enter g #[x]) w ∧ CallsDIn Fence.wide 0 P g #[x] .returning w fun e u w' => (∃ v, e = .returned v) ∧ u = .returning ∧ w' = w
structure Marks (Z : FuncId → Bool) (B : Nat) (γ : Cx) (H : HM) (a : Act) (w : World) : Prop where
  base : B ≤ w.heap.size
  nd : a.defers.Pairwise fun d d' => d = d' → IsQuiet Z d
  each : ∀ d ∈ a.defers, IsQuiet Z d ∨ ∃ D, d = { target := .collected D, args := #[] } ∧ B ≤ D ∧ w.heap[D]? = some (.deferred (some [])) ∧ ∀ id k l, H id = some k → γ.loc id = some l → l.1 ≠ D
structure SR (E : Env) (γ : Cx) (N B nt : Nat) (F : Fr) (H : HM) (a : Act) (w : World) : Prop where
  rel : Rel E γ N H w
  fr : FRel γ F a
  low : N ≤ w.heap.size
  size : nt ≤ a.tmps.size
  defs : Marks E.quiet B γ H a w

section
variable {E : Env} {γ : Cx} {N B nt : Nat} {w : World} {F : Fr} {a : Act} {ρ : Option Nat}

theorem Marks.none {Z : FuncId → Bool} {H : HM} (hb : B ≤ w.heap.size) (h : a.defers = []) : Marks Z B γ H a w := ⟨hb, by rw [h]; exact .nil, fun d hd => by rw [h] at hd; cases hd⟩
theorem Marks.less {Z : FuncId → Bool} {H H' : HM} (h : Marks Z B γ H a w) (hs : ∀ id k, H' id = some k → H id = some k) : Marks Z B γ H' a w :=
  ⟨h.base, h.nd, fun d hd => (h.each d hd).imp id fun ⟨D, a, b, c, e⟩ => ⟨D, a, b, c, fun id k l x y => e id k l (hs _ _ x) y⟩⟩
theorem Marks.next {H H' : HM} {γ' : Cx} {w' : World} {n n' : Nat} {a' : Act} {Z : FuncId → Bool} (h : Marks Z B γ H a w) (hx : Nxt γ H w n γ' H' w' n') (he : a'.defers = a.defers) : Marks Z B γ' H' a' w' :=
  ⟨Nat.le_trans h.base hx.size, by rw [he]; exact h.nd, fun d hd => by
    rw [he] at hd
    refine (h.each d hd).imp id fun ⟨D, h1, h2, h3, h4⟩ => ?_
    have hlt : D < w.heap.size := (Array.getElem?_eq_some_iff.1 h3).1
    refine ⟨D, h1, h2, (hx.keep D hlt h4).trans h3, fun id k l hk hl e => ?_⟩
    rcases hx.img hk hl with q | ⟨j, k0, l0, x, y, z⟩
    · omega
    · exact h4 j k0 l0 x y (z.trans e)⟩

theorem tmpA_set (F : Fr) (t s : Tmp) (v : AV) : tmpA (F.set t v) s = if t = s then v else tmpA F s := by
  unfold tmpA
  rw [Tr.get_set]
  by_cases h : t = s
  · rw [if_pos h, if_pos h]
  · rw [if_neg h, if_neg h]
theorem getD_set (x : Array Value) (t s : Nat) (v : Value) : (x.setIfInBounds t v).getD s undef = if t = s ∧ t < x.size then v else x.getD s undef := by
  simp only [Array.getD_eq_getD_getElem?, Array.getElem?_setIfInBounds]
  by_cases h : t = s
  · subst h
    by_cases h2 : t < x.size
    · simp [h2]
    · simp [h2]
  · simp [h]
theorem FRel.mono {γ' : Cx} (h : FRel γ F a) (hg : γ.Le γ') : FRel γ' F a := fun t => (h t).mono hg
theorem put_ok (hF : FRel γ F a) {d : Option Tmp} {v : AV} {v' : Value} (hv : VR γ v v') {F' : Fr} (h : putA nt F d v = some F') (hs : nt ≤ a.tmps.size) : FRel γ F' (a.put d v') := by
  unfold putA at h
  cases d with
  | none => simp only [Option.some.injEq] at h; subst h; exact hF
  | some t =>
    simp only at h
    split at h
    · rename_i ht
      simp only [Option.some.injEq] at h; subst h
      intro s
      rw [tmpA_set]
      simp only [Act.put]
      rw [getD_set]
      by_cases e : t = s
      · rw [if_pos e, if_pos ⟨e, Nat.lt_of_lt_of_le ht hs⟩]; exact hv
      · rw [if_neg e, if_neg (fun q => e q.1)]; exact hF s
    · cases h
theorem put_size (d : Option Tmp) (v : Value) : (a.put d v).tmps.size = a.tmps.size := by cases d <;> simp [Act.put]
theorem put_defers (d : Option Tmp) (v : Value) : (a.put d v).defers = a.defers := by cases d <;> rfl

theorem undef_ok : VR γ (.tup []) undef := .tup .nil

/-- A guard reads as the machine's. -/
theorem wanted_ok (hF : FRel γ F a) {ops : Array Oper} {o : Oper} {b : Bool} (h : wantedA ops F o = some b) : Region.wanted o (yielded ops a.tmps) = b := by
  unfold wantedA at h
  unfold Region.wanted
  cases hg : o.guard with
  | none => simp only [hg, Option.some.injEq] at h; exact h
  | some q =>
    obtain ⟨j, want⟩ := q
    simp only [hg] at h ⊢
    unfold yielded
    cases hj : ops[j]? with
    | none => simp only [hj, Option.some.injEq] at h; subst h; rfl
    | some g =>
      simp only [hj] at h
      simp only [Option.bind_some]
      cases hd : g.dst with
      | none => simp only [hd, Option.some.injEq] at h; subst h; rfl
      | some t =>
        simp only [hd] at h
        simp only [Option.bind_some]
        have hr := hF t
        have hget : ∀ v, a.tmps.getD t undef = v → v ≠ undef → a.tmps[t]? = some v := fun v e hne => by
          rw [Array.getD_eq_getD_getElem?] at e
          cases hx : a.tmps[t]? with
          | none => rw [hx] at e; exact absurd e.symm hne
          | some u => rw [hx] at e; simp at e; rw [e]
        split at h
        · rename_i c hc
          rw [hc] at hr
          simp only [Option.some.injEq] at h
          subst h
          generalize hv : a.tmps.getD t undef = v at hr
          cases hr
          rw [hget _ hv (by simp [undef])]
          cases c <;> cases want <;> rfl
        · rename_i l hc
          rw [hc] at hr
          simp only [Option.some.injEq] at h
          subst h
          generalize hv : a.tmps.getD t undef = v at hr
          cases hr
          rename_i l' hl
          cases hx : a.tmps[t]? with
          | none => rfl
          | some u =>
            rw [Array.getD_eq_getD_getElem?, hx] at hv
            simp at hv
            subst hv
            rfl
        · cases h

/-- An operation that calls leaves memory alone. -/
theorem exOp_call {o : Op} {H : AH} {f : FuncId} {args : List AV} {H' : AH} (h : exOp E F o H = some (.call f args H')) : H' = H := by
  have hv : ∀ x, vR H x ≠ some (.call f args H') := fun x e => by obtain ⟨v, _, e2⟩ := vR_some e; cases e2
  have hn : ∀ l v, newR H l v ≠ some (.call f args H') := fun l v e => by obtain ⟨v, _, e2⟩ := newR_some e; cases e2
  cases o <;> simp only [exOp] at h <;> try (cases h; done)
  case call c =>
    unfold callX at h
    split at h
    · cases h
    · split at h
      · split at h
        · unfold callA at h
          split at h
          · simp only [Option.some.injEq, R.call.injEq] at h; exact h.2.2.symm
          · cases h
        · cases h
      · cases h
      · exfalso
        rename_i b _
        cases b <;> simp only [builtinX] at h <;> try (cases h; done)
        all_goals
          first
            | (split at h
               · first
                  | exact hv _ h
                  | (unfold appendA at h; (repeat' (split at h)) <;> first | (cases h; done) | (unfold appendE growA at h; (repeat' (split at h)) <;> first | (cases h; done) | (simp at h; done)) | (unfold zerosA at h; (repeat' (split at h)) <;> first | (cases h; done) | (simp at h; done)))
                  | (unfold clearX at h; (repeat' (split at h)) <;> first | (cases h; done) | (simp at h; done))
                  | (split at h <;> first | (cases h; done) | (simp at h; done))
               · cases h)
  all_goals exfalso
  all_goals first
    | exact hv _ h
    | (unfold pickX at h; (repeat' (split at h)) <;> first | (cases h; done) | exact hv _ h)
    | (unfold allocX at h; (repeat' (split at h)) <;> first | (cases h; done) | exact hn _ _ h)
    | (unfold boxX at h; (repeat' (split at h)) <;> first | (cases h; done) | exact hn _ _ h)
    | (unfold buildX fillR at h; (repeat' (split at h)) <;> first | (cases h; done) | (simp at h; done))
    | (unfold buildSliceX at h; (repeat' (split at h)) <;> first | (cases h; done) | exact hn _ _ h)
    | (unfold loadX at h; (repeat' (split at h)) <;> first | (cases h; done) | exact hv _ h)
    | (unfold storeX at h; (repeat' (split at h)) <;> first | (cases h; done) | (simp at h; done))
    | (unfold nilCheckX at h; (repeat' (split at h)) <;> first | (cases h; done) | (simp at h; done))
    | (unfold binX at h; (repeat' (split at h)) <;> first | (cases h; done) | exact hv _ h)
    | (unfold unX at h; (repeat' (split at h)) <;> first | (cases h; done) | exact hv _ h)
    | (unfold convX convA convI convB convS at h; (repeat' (split at h)) <;> first | (cases h; done) | (simp at h; done))
    | (unfold ifaceX at h; (repeat' (split at h)) <;> first | (cases h; done) | (simp at h; done))
    | (unfold funcX at h; (repeat' (split at h)) <;> first | (cases h; done) | (simp at h; done))
    | (unfold makeSliceX at h; (repeat' (split at h)) <;> first | (cases h; done) | exact hn _ _ h)
    | (unfold sliceX at h; (repeat' (split at h)) <;> first | (cases h; done) | exact hv _ h)
    | (unfold fieldAddrX at h; (repeat' (split at h)) <;> first | (cases h; done) | (simp at h; done))
    | (unfold fieldX at h; (repeat' (split at h)) <;> first | (cases h; done) | exact hv _ h)
    | (unfold indexAddrX at h; (repeat' (split at h)) <;> first | (cases h; done) | (simp at h; done))
    | (unfold indexX at h; (repeat' (split at h)) <;> first | (cases h; done) | (simp at h; done) | exact hv _ h)
    | (unfold assertX at h; (repeat' (split at h)) <;> first | (cases h; done) | (simp at h; done))
    | (unfold extractX at h; (repeat' (split at h)) <;> first | (cases h; done) | exact hv _ h)
    | (split at h <;> first | (cases h; done) | (unfold funcX at h; (repeat' (split at h)) <;> first | (cases h; done) | (simp at h; done)))

/-- One wanted operation. -/
theorem wp_of_fin {call : CallF} (hcall : CallOk E call) (ok : TyOk E) {H : AH} {o : Oper} (hs : SR E γ N B nt F H.bs.get a w) {r : R} (hr : exOp E F o.op H = some r) {s : St} (hfin : finA call nt F o.dst r = some s)
    (hf : ∀ id, H.n ≤ id → id < s.H.n → γ.loc id = none) {next : Act → World → Prop} {Q : Exit → Act → World → Prop}
    (K : ∀ γ' v v' w', VR γ' v v' → putA nt F o.dst v = some s.F → Rel E γ' N s.H.bs.get w' → Nxt γ H.bs.get w H.n γ' s.H.bs.get w' s.H.n → next (a.put o.dst v') w') : o.wpIn (rd ρ) 0 E.P a w next Q := by
  have hsem : o.semAt ρ a.eval = execOp a.eval o := by
    cases ρ with
    | none => exact Oper.semAt_none _ _
    | some l => exact Oper.semAt_some l _ _ (fun c q => by rw [q] at hr; simp [exOp] at hr)
  refine ⟨fun _ _ => trivial, ?_⟩
  show o.uponIn (rd ρ) 0 E.P a next Q ((o.semAt ρ a.eval).run E.P w)
  rw [hsem]
  unfold finA at hfin
  cases r with
  | val v H' =>
    simp only at hfin
    cases hp : putA nt F o.dst v with
    | none => simp [hp] at hfin
    | some F' =>
      simp only [hp, Option.some.injEq] at hfin
      subst hfin
      obtain ⟨v', w', γ', h1, h2, h3, h4⟩ := exOp_ok ok hs.rel hs.low hs.fr hr hf
      rw [h1]
      exact K γ' v v' w' h2 hp h3 h4
  | skip H' =>
    simp only at hfin
    cases hp : putA nt F o.dst (.tup []) with
    | none => simp [hp] at hfin
    | some F' =>
      simp only [hp, Option.some.injEq] at hfin
      subst hfin
      obtain ⟨w', γ', h1, h3, h4⟩ := exOp_ok ok hs.rel hs.low hs.fr hr hf
      rw [h1]
      exact K γ' (.tup []) undef w' undef_ok hp h3 h4
  | call f args H' =>
    simp only at hfin
    cases hc : call f args H' with
    | none => simp [hc] at hfin
    | some q =>
      obtain ⟨v, H''⟩ := q
      simp only [hc] at hfin
      cases hp : putA nt F o.dst v with
      | none => simp [hp] at hfin
      | some F' =>
        simp only [hp, Option.some.injEq] at hfin
        subst hfin
        have hop := exOp_ok (E := E) (γ := γ) (N := N) (w := w) (a := a) (o := o) ok hs.rel hs.low hs.fr hr (fun id h1 h2 => by
          have := exOp_call hr
          subst this
          simp only [R.n] at h2
          omega)
        obtain ⟨rfl, args', h1, h2⟩ := hop
        have := hcall hc hs.rel hs.low h1 hf
        unfold CallWp at this
        rw [h2]
        split at this
        · rename_i v' w' he
          rw [he]
          obtain ⟨γ', k1, k2, k3⟩ := this
          exact K γ' v v' w' k1 hp k2 k3
        · rename_i g as w' he
          rw [he]
          simp only [Oper.uponIn_enter]
          refine ⟨fun q => (by cases q), ?_⟩
          show CallsIn Fence.wide (0 - 1) E.P g as w' _
          refine (callsIn_wide.2 this).mono ?_
          rintro e w'' ⟨v', rfl, γ', k1, k2, k3⟩
          exact K γ' v v' w'' k1 hp k2 k3
        · exact this.elim
end
end Go.Proofs.YtfcfliclmjikkaaGreatDoor.Ex
