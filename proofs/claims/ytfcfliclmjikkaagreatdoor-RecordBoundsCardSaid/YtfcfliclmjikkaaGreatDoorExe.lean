/- The plain runner's operations: what each gives is what the machine's operation gives. -/
import Derived.Test.YtfcfliclmjikkaaGreatDoorExd
namespace Go.Proofs.YtfcfliclmjikkaaGreatDoor.Ex
open Go
set_option linter.unusedVariables false
set_option linter.unusedSimpArgs false

theorem tiOf_ok {P : Program} {t : TypeId} {i : TI} (h : tiOf P t = some i) :
    ∃ info d, P.info? t = some info ∧ P.underlying t = some d ∧ i = ⟨kindOf d, info.size, info.bytes, zeroOf P d info, plainEq P t d⟩ := by
  unfold tiOf at h
  cases h1 : P.info? t with
  | none => simp [h1] at h
  | some info =>
    cases h2 : P.underlying t with
    | none => simp [h1, h2] at h
    | some d =>
      simp only [h1, h2, Option.some.injEq] at h
      exact ⟨info, d, rfl, rfl, h.symm⟩
theorem zeroOf_ok {P : Program} {d : TypeDesc} {info : TypeInfo} {l : List AV} (h : zeroOf P d info = some l) : fldsOk P d = true ∧ ∃ z, info.zero = some z ∧ absCells z = some l := by
  unfold zeroOf at h
  cases hf : fldsOk P d
  · simp [hf] at h
  · simp only [hf, cond_true] at h
    cases hz : info.zero with
    | none => simp [hz] at h
    | some z => exact ⟨rfl, z, rfl, by simpa [hz] using h⟩
theorem kind_slice {d : TypeDesc} {e : TypeId} (h : kindOf d = .slice e) : d = .slice e := by
  cases d <;> simp [kindOf] at h; rw [h]
theorem kind_str {d : TypeDesc} (h : kindOf d = .str) : d = .string := by cases d <;> simp [kindOf] at h; rfl
theorem kind_int {d : TypeDesc} {k : IntKind} (h : kindOf d = .int k) : d = .int k := by cases d <;> simp [kindOf] at h; rw [h]
theorem kind_array {d : TypeDesc} {n : Nat} {e : TypeId} (h : kindOf d = .array n e) : d = .array n e := by
  cases d <;> simp [kindOf] at h; rw [h.1, h.2]
theorem kind_struct {d : TypeDesc} {fs : List (Nat × TypeId)} (h : kindOf d = .struct fs) : ∃ f, d = .struct f ∧ fs = f.toList.map fun x => (x.offset, x.type) := by
  cases d <;> simp [kindOf] at h; exact ⟨_, rfl, h.symm⟩
theorem kind_iface {d : TypeDesc} (h : kindOf d = .iface) : ∃ ms, d = .interface ms := by cases d <;> simp [kindOf] at h; exact ⟨_, rfl⟩
theorem kind_agg (d : TypeDesc) : (kindOf d).isAgg = true ↔ (∃ f, d = .struct f) ∨ (∃ n e, d = .array n e) := by
  cases d <;> simp [kindOf, TK.isAgg]

/-- What is asked of a runner's tables. -/
structure TyOk (E : Env) : Prop where
  ty : ∀ {t : TypeId} {i : TI}, E.ty.get t = some i → tiOf E.P t = some i

def FRel (γ : Cx) (F : Fr) (a : Act) : Prop := ∀ t, VR γ (tmpA F t) (a.tmps.getD t undef)

theorem opA_ok {γ : Cx} {F : Fr} {a : Act} (hF : FRel γ F a) {x : Operand} {v : AV} (h : opA F x = some v) : VR γ v (a.eval x) := by
  cases x <;> simp only [opA, Option.some.injEq] at h
  · subst h; exact hF _
  · exact absC_ok h
  · subst h; exact .glob _
  · subst h; exact .func .nil .nil
theorem opsA_ok {γ : Cx} {F : Fr} {a : Act} (hF : FRel γ F a) : ∀ {l : List Operand} {v : List AV}, opsA F l = some v → VRs γ v (l.map a.eval)
  | [], v, h => by simp [opsA] at h; subst h; exact .nil
  | x :: l, v, h => by
    simp only [opsA] at h
    cases hx : opA F x with
    | none => simp [hx] at h
    | some u =>
      cases hr : opsA F l with
      | none => simp [hx, hr] at h
      | some r =>
        simp [hx, hr] at h
        subst h
        exact .cons (opA_ok hF hx) (opsA_ok hF hr)

def R.n : R → Nat
  | .val _ H => H.n
  | .skip H => H.n
  | .call _ _ H => H.n
/-- The machine's operation does as the runner's. -/
def Does (E : Env) (γ : Cx) (N : Nat) (H : AH) (w : World) (s : Sem Next) : R → Prop
  | .val v H' => ∃ v' w' γ', s.run E.P w = .ok (.value v') w' ∧ VR γ' v v' ∧ Rel E γ' N H'.bs.get w' ∧ Nxt γ H.bs.get w H.n γ' H'.bs.get w' H'.n
  | .skip H' => ∃ w' γ', s.run E.P w = .ok .skip w' ∧ Rel E γ' N H'.bs.get w' ∧ Nxt γ H.bs.get w H.n γ' H'.bs.get w' H'.n
  | .call f args H' => H' = H ∧ ∃ args', VRs γ args args' ∧ s.run E.P w = (callFunc f args'.toArray).run E.P w

def asNext (s : Sem Value) : Sem Next := do pure (.value (← s))
theorem run_asNext {P : Program} {s : Sem Value} {w w' : World} {v : Value} (h : s.run P w = .ok v w') : (asNext s).run P w = .ok (.value v) w' := by
  simp [asNext, h]

section
variable {E : Env} {γ : Cx} {N : Nat} {H : AH} {w : World}
/-- An operation that leaves the world alone. -/
theorem does_val (h : Rel E γ N H.bs.get w) {s : Sem Next} {v : AV} {v' : Value} (hs : s.run E.P w = .ok (.value v') w) (hv : VR γ v v') : Does E γ N H w s (.val v H) :=
  ⟨v', w, γ, hs, hv, h, .refl _ _ _ _⟩
theorem vR_some {x : Option AV} {r : R} (h : vR H x = some r) : ∃ v, x = some v ∧ r = .val v H := by
  cases x with
  | none => simp [vR] at h
  | some v => simp only [vR, Option.some.injEq] at h; exact ⟨v, rfl, h.symm⟩

theorem fresh_new {H' : AH} {l : List AV} (h : H.new l = some H') (hf : ∀ id, H.n ≤ id → id < H'.n → γ.loc id = none) : γ.loc H.n = none :=
  hf _ (Nat.le_refl _) (by rw [(AH.new_ok h).1]; omega)
/-- A new block, whatever was drawn ahead of it. -/
theorem does_new (h : Rel E γ N H.bs.get w) (hN : N ≤ w.heap.size) {H' : AH} {l : List AV} (hn : H.new l = some H') (hf : ∀ id, H.n ≤ id → id < H'.n → γ.loc id = none)
    {s : Sem Next} {v' : Value} {w' : World} {cs : Array Value} {T : TypeId} {fz : Nat × Nat} {vs : List Value} {v : AV}
    (hs : s.run E.P w = .ok (.value v') w') (hw : w'.heap = w.heap.push (.cells cs T fz)) (hfz : ∀ i, i < cs.size → ¬ (fz.1 ≤ i ∧ i < fz.2))
    (hv : VRs γ l vs) (hl : vs.length ≤ cs.size) (hcs : ∀ i, i < vs.length → cs[i]? = vs[i]?) (hval : VR (γ.bind H.n (w.heap.size, 0, cs.size)) v v') (hst : Same w w' := by exact ⟨rfl, rfl, rfl⟩) : Does E γ N H w s (.val v H') := by
  obtain ⟨e1, e2, e3⟩ := AH.new_ok hn
  have := rel_new (id := H.n) h hN (fresh_new hn hf) hw hfz hv e3 hl hcs hst
  refine ⟨v', w', _, hs, hval, ?_, ?_⟩
  · rw [e2]; exact this.1
  · rw [e2, e1]; exact this.2
end
end Go.Proofs.YtfcfliclmjikkaaGreatDoor.Ex
