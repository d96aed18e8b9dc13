/- The plain runner's operations of one and of two values. -/
import Derived.Test.YtfcfliclmjikkaaGreatDoorExh
namespace Go.Proofs.YtfcfliclmjikkaaGreatDoor.Ex
open Go
set_option linter.unusedVariables false
set_option linter.unusedSimpArgs false
section
variable {E : Env} {γ : Cx} {N : Nat} {H : AH} {w : World} {F : Fr} {a : Act}

theorem eqLeaf_bin {k : TK} {t : TypeId} {x y : AV} {x' y' : Value} (hx : VR γ x x') (hy : VR γ y y') {b : Bool} (h : eqLeaf k x y = some b) (hl : linOf x = none) (hs : ∀ s s', x = .str s → y = .str s' → False) :
    Go.binOp .eql t x' y' = (do pure (.bool (← Op.equal t x' y'))) ∧ Go.binOp .neq t x' y' = (do pure (.bool (!(← Op.equal t x' y')))) := by
  unfold eqLeaf at h
  split at h
  case h_15 => cases h
  case h_2 => simp [linOf] at hl
  case h_3 => exact absurd rfl (fun e => hs _ _ e rfl)
  all_goals
    cases hx; cases hy
    exact ⟨rfl, rfl⟩
theorem eqT_bin {n : Nat} {t : TypeId} {x y : AV} {x' y' : Value} (hx : VR γ x x') (hy : VR γ y y') {b : Bool} (h : eqT E (n + 1) t x y = some b) (hl : linOf x = none) (hs : ∀ s s', x = .str s → y = .str s' → False) :
    Go.binOp .eql t x' y' = (do pure (.bool (← Op.equal t x' y'))) ∧ Go.binOp .neq t x' y' = (do pure (.bool (!(← Op.equal t x' y')))) := by
  unfold eqT at h
  split at h
  · cases h
  · split at h
    · cases hx; cases hy
      exact ⟨rfl, rfl⟩
    · cases hx; cases hy
      exact ⟨rfl, rfl⟩
    · split at h
      · rename_i b' hb'
        exact eqLeaf_bin hx hy hb' hl hs
      · unfold eqLin at h
        split at h
        · rw [hl] at h; cases h
        · cases h

theorem binE_ok (ok : TyOk E) (hsy : SymOk E γ) {op : BinOp} {t : TypeId} {xo yo : Operand} {x y v : AV} {x' y' : Value} (hx : VR γ x x') (hy : VR γ y y') (hl : linOf x = none) (hs : ∀ s s', x = .str s → y = .str s' → False) (h : binE E op t x y = some v) :
    ∃ v', BinDoes E.P w op t xo yo x' y' v' ∧ VR γ v v' := by
  cases op <;> simp only [binE] at h <;> try (cases h; done)
  all_goals
    cases he : eqT E 20 t x y with
    | none => simp [he] at h
    | some b =>
      simp only [he, Option.map_some, Option.some.injEq] at h
      subst h
      obtain ⟨h1, h2⟩ := eqT_ok (w := w) ok hsy 20 he hx hy Op.maxDepth (by unfold Op.maxDepth; omega)
      obtain ⟨b1, b2⟩ := eqT_bin (t := t) hx hy he hl hs
      refine ⟨_, ⟨h2 _ _ _, ?_⟩, .bool _⟩
      first
        | (rw [b1]; simp [Op.equal, h1]; done)
        | (rw [b2]; simp [Op.equal, h1]; done)

theorem Rel.symOk (h : Rel E γ N H.bs.get w) : SymOk E γ := fun e => h.sym e

theorem binA_ok (ok : TyOk E) (hs : SymOk E γ) {op : BinOp} {t : TypeId} {xo yo : Operand} {x y v : AV} {x' y' : Value} (hx : VR γ x x') (hy : VR γ y y') (h : binA E op t x y = some v) :
    ∃ v', BinDoes E.P w op t xo yo x' y' v' ∧ VR γ v v' := by
  unfold binA at h
  split at h
  · cases hx; cases hy
    split at h
    · rename_i hk
      exact intOp_ok hk h
    · cases h
  · cases hx; cases hy
    exact strOp_ok h
  · rename_i hno1 hno2
    unfold binL at h
    cases hlx : linOf x with
    | some p =>
      obtain ⟨k, p⟩ := p
      simp only [hlx] at h
      cases hly : linOf y with
      | none => simp [hly] at h
      | some q =>
        obtain ⟨k', q⟩ := q
        simp only [hly] at h
        split at h
        · rename_i hk
          subst hk
          rw [linOf_ok hlx hx, linOf_ok hly hy]
          exact linOp_ok hs h
        · cases h
    | none =>
      simp only [hlx] at h
      exact binE_ok ok hs hx hy hlx (fun s s' e1 e2 => hno2 _ _ e1 e2) h

theorem isIfc_ok (ok : TyOk E) {t : TypeId} (h : isIfc E.ty t = true) : ∃ ms, E.P.underlying t = some (.interface ms) := by
  unfold isIfc at h
  split at h
  · rename_i i hi
    split at h
    · rename_i hk
      obtain ⟨info, d, h1, h2, rfl⟩ := tiOf_ok (ok.ty hi)
      obtain ⟨ms, rfl⟩ := kind_iface hk
      exact ⟨ms, h2⟩
    · cases h
  · cases h
theorem nilB_ok (ok : TyOk E) {op : BinOp} {t : TypeId} {xo yo : Operand} {x y v : AV} {x' y' : Value} (hx : VR γ x x') (hy : VR γ y y') (h : nilB E op t xo yo x y = some v) :
    ∃ v', BinDoes E.P w op t xo yo x' y' v' ∧ VR γ v v' := by
  unfold nilB at h
  split at h
  · cases hx; cases hy
    cases hb : ((isK xo || isK yo) && isIfc E.ty t) with
    | false => rw [hb] at h; cases h
    | true =>
      rw [hb] at h
      simp only [cond_true] at h
      rw [Bool.and_eq_true] at hb
      obtain ⟨ms, hu⟩ := isIfc_ok ok hb.2
      have hg : ∀ op, (eqGuard op t xo yo .nilIface .nilIface).run E.P w = .ok () w := fun op => by
        have h1 := hb.1
        cases op <;> cases xo <;> cases yo <;> first | rfl | (simp [isK] at h1; done) | simp [eqGuard, run_underlying hu]
      have he : (Op.equal t .nilIface .nilIface).run E.P w = .ok true w := by
        obtain ⟨n, hn⟩ : ∃ n, Op.maxDepth = n + 1 := ⟨Op.maxDepth - 1, by unfold Op.maxDepth; omega⟩
        unfold Op.equal
        rw [hn]
        simp [Op.equalIn, run_underlying hu]
      cases op <;> simp only [nilOp, Option.some.injEq] at h <;> try (cases h; done)
      all_goals subst h
      · exact ⟨_, ⟨hg _, by show Sem.run E.P (do pure (Value.bool (← Op.equal t .nilIface .nilIface))) w = _; simp [he]⟩, .bool _⟩
      · exact ⟨_, ⟨hg _, by show Sem.run E.P (do pure (Value.bool (!(← Op.equal t .nilIface .nilIface)))) w = _; simp [he]⟩, .bool _⟩
  · cases h
theorem bin_ok (ok : TyOk E) (h : Rel E γ N H.bs.get w) (hF : FRel γ F a) {op : BinOp} {t : TypeId} {x y : Operand} {r : R} (hr : binX E F op t x y H = some r) :
    Does E γ N H w (asNext (do eqGuard op t x y (a.eval x) (a.eval y); Go.binOp op t (a.eval x) (a.eval y))) r := by
  unfold binX at hr
  cases hx : opA F x with
  | none => simp [hx] at hr
  | some u =>
    cases hy : opA F y with
    | none => simp [hx, hy] at hr
    | some u2 =>
      simp only [hx, hy] at hr
      split at hr
      · rename_i v hv
        simp only [Option.some.injEq] at hr
        subst hr
        obtain ⟨v', ⟨h1, h2⟩, h3⟩ := nilB_ok (w := w) ok (opA_ok hF hx) (opA_ok hF hy) hv
        exact does_val h (run_asNext (v := v') (by simp only [Sem.run_bind, h1, Result.andThen_ok, h2])) h3
      obtain ⟨v, hv, rfl⟩ := vR_some hr
      obtain ⟨v', ⟨h1, h2⟩, h3⟩ := binA_ok (w := w) (xo := x) (yo := y) ok h.symOk (opA_ok hF hx) (opA_ok hF hy) hv
      exact does_val h (run_asNext (v := v') (by simp only [Sem.run_bind, h1, Result.andThen_ok, h2])) h3

theorem un_ok (ok : TyOk E) (h : Rel E γ N H.bs.get w) (hF : FRel γ F a) {op : UnOp} {x : Operand} {r : R} (hr : unX E F op x H = some r) :
    Does E γ N H w (asNext (Op.unary op (a.eval x))) r := by
  unfold unX at hr
  cases hx : opA F x with
  | none => simp [hx] at hr
  | some u =>
    simp only [hx] at hr
    obtain ⟨v, hv, rfl⟩ := vR_some hr
    have hp := opA_ok hF hx
    generalize a.eval x = xv at hp
    suffices ∃ v', (Op.unary op xv).run E.P w = .ok v' w ∧ VR γ v v' by
      obtain ⟨v', h1, h2⟩ := this
      exact does_val h (run_asNext h1) h2
    unfold unA at hv
    split at hv
    · cases hp
      simp only [Option.some.injEq] at hv; subst hv
      rename_i k n
      exact ⟨.int k (k.wrap (0 - n)), by simp [Op.unary, Op.intArith], by rw [wrapF_eq]; exact .int _ _⟩
    · cases hp
      rename_i k i c d
      have := Lin.val_ok h.symOk hv
      rw [Lin.neg_ok] at this
      exact ⟨.int k (k.wrap (-(Lin.at γ ⟨i, c, d⟩))), by simp [Op.unary, Op.intArith, Lin.at], this⟩
    · cases hp
      simp only [Option.some.injEq] at hv; subst hv
      exact ⟨_, by simp [Op.unary], .bool _⟩
    · cases hp
      rename_i k n
      simp only [intOp, Option.some.injEq] at hv; subst hv
      exact ⟨.int k _, by simp only [Op.unary, Op.intBits]; rfl, .int _ _⟩
    · cases hv
end
end Go.Proofs.YtfcfliclmjikkaaGreatDoor.Ex
