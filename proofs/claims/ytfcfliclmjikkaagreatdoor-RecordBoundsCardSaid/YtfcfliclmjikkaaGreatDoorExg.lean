/- The plain runner's reckoning. -/
import Derived.Test.YtfcfliclmjikkaaGreatDoorExf
import Derived.Laws.StructEq
namespace Go.Proofs.YtfcfliclmjikkaaGreatDoor.Ex
open Go
set_option linter.unusedVariables false
set_option linter.unusedSimpArgs false

theorem wrap_in {k : IntKind} {n : Int} (h : inKind k n = true) : k.wrap n = n := by
  simp only [inKind, Bool.and_eq_true, decide_eq_true_eq] at h
  obtain ⟨h1, h2⟩ := h
  cases k <;> simp only [lowOf, highOf] at h1 h2 <;> unfold IntKind.wrap <;> simp [IntKind.bits, IntKind.signed] <;> omega
theorem wrapF_eq (k : IntKind) (n : Int) : wrapF k n = k.wrap n := by
  unfold wrapF
  cases h : inKind k n
  · rfl
  · simp [wrap_in h]

/-- Does the operation of two values come to this one? -/
def BinDoes (P : Program) (w : World) (op : BinOp) (t : TypeId) (xo yo : Operand) (x y v : Value) : Prop :=
  (eqGuard op t xo yo x y).run P w = .ok () w ∧ (Go.binOp op t x y).run P w = .ok v w

theorem cmpI_ok {op : BinOp} {x y : Int} {b : Bool} (h : cmpI op x y = some b) {P : Program} {w : World} : (Op.intCmp op x y).run P w = .ok (.bool b) w := by
  cases op <;> simp [cmpI] at h <;> subst h <;> simp [Op.intCmp]

theorem eqGuard_int {P : Program} {w : World} {op : BinOp} {t : TypeId} {xo yo : Operand} {k k' : IntKind} {x y : Int} : (eqGuard op t xo yo (.int k x) (.int k' y)).run P w = .ok () w := by
  cases op <;> simp [eqGuard]
theorem eqGuard_str {P : Program} {w : World} {op : BinOp} {t : TypeId} {xo yo : Operand} {x y : ByteArray} : (eqGuard op t xo yo (.string x) (.string y)).run P w = .ok () w := by
  cases op <;> simp [eqGuard]

theorem intOp_ok {γ : Cx} {P : Program} {w : World} {op : BinOp} {t : TypeId} {xo yo : Operand} {k k' : IntKind} {x y : Int} {v : AV}
    (hk : (isShift op || decide (k = k')) = true) (h : intOp op k x y = some v) : ∃ v', BinDoes P w op t xo yo (.int k x) (.int k' y) v' ∧ VR γ v v' := by
  suffices ∃ v', (Go.binOp op t (.int k x) (.int k' y)).run P w = .ok v' w ∧ VR γ v v' by
    obtain ⟨v', h1, h2⟩ := this
    exact ⟨v', ⟨eqGuard_int, h1⟩, h2⟩
  cases op <;> simp only [isShift, Bool.true_or, Bool.false_or, decide_eq_true_eq] at hk
  case shl =>
    simp only [intOp] at h
    split at h
    · cases h
    · rename_i hy
      simp only [Option.some.injEq] at h; subst h
      exact ⟨_, by simp [Go.binOp, Op.shift, hy], .int _ _⟩
  case shr =>
    simp only [intOp] at h
    split at h
    · cases h
    · rename_i hy
      simp only [Option.some.injEq] at h; subst h
      exact ⟨_, by simp [Go.binOp, Op.shift, hy], .int _ _⟩
  case quo =>
    subst hk
    simp only [intOp] at h
    split at h
    · cases h
    · rename_i hy
      simp only [Option.some.injEq] at h; subst h
      exact ⟨.int k (k.wrap (x.tdiv y)), by simp [Go.binOp, Op.intDiv, hy], by rw [wrapF_eq]; exact .int _ _⟩
  case rem =>
    subst hk
    simp only [intOp] at h
    split at h
    · cases h
    · rename_i hy
      simp only [Option.some.injEq] at h; subst h
      exact ⟨_, by simp [Go.binOp, Op.intDiv, hy], .int _ _⟩
  all_goals
    subst hk
    simp only [intOp, cmpI, Option.map_some, Option.some.injEq] at h
    subst h
    try simp only [wrapF_eq]
    first
      | exact ⟨.int k _, by simp only [Go.binOp, ne_eq, not_true_eq_false, if_false, Op.intArith, Op.intBits]; rfl, .int _ _⟩
      | exact ⟨.bool _, by simp only [Go.binOp, ne_eq, not_true_eq_false, if_false, Op.intCmp]; rfl, .bool _⟩

theorem size_ofList (x : List UInt8) : (⟨x.toArray⟩ : ByteArray).size = x.length := rfl
theorem toList_ofList (x : List UInt8) : (⟨x.toArray⟩ : ByteArray).toList = x := by rw [ByteArray.toList_eq]
theorem append_ofList (x y : List UInt8) : (⟨x.toArray⟩ : ByteArray) ++ ⟨y.toArray⟩ = ⟨(x ++ y).toArray⟩ := by
  apply ByteArray.ext
  simp [ByteArray.data_append]

theorem strOp_ok {γ : Cx} {P : Program} {w : World} {op : BinOp} {t : TypeId} {xo yo : Operand} {x y : List UInt8} {v : AV} (h : strOp op x y = some v) :
    ∃ v', BinDoes P w op t xo yo (.string ⟨x.toArray⟩) (.string ⟨y.toArray⟩) v' ∧ VR γ v v' := by
  suffices ∃ v', (Go.binOp op t (.string ⟨x.toArray⟩) (.string ⟨y.toArray⟩)).run P w = .ok v' w ∧ VR γ v v' by
    obtain ⟨v', h1, h2⟩ := this
    exact ⟨v', ⟨eqGuard_str, h1⟩, h2⟩
  cases op <;> simp only [strOp] at h <;> try (cases h; done)
  case add =>
    split at h
    · rename_i hl
      simp only [Option.some.injEq] at h; subst h
      have : ¬ ((9223372036854775807 : Int) < (x.length : Int) + (y.length : Int)) := by omega
      refine ⟨.string ⟨(x ++ y).toArray⟩, ?_, .str _⟩
      simp [Go.binOp, Op.stringOp, size_ofList, append_ofList, IntKind.max, IntKind.signed, IntKind.bits, this]
    · cases h
  all_goals
    simp only [Option.some.injEq] at h
    subst h
    exact ⟨_, by simp [Go.binOp, Op.stringOp, toList_ofList], .bool _⟩

/-! ### Unknown numbers -/
def Lin.at (γ : Cx) (x : Lin) : Int := x.a * γ.sym x.i + x.c
def SymOk (E : Env) (γ : Cx) : Prop := ∀ {i : Nat} {lo hi : Int}, E.syms.get i = some (lo, hi) → lo ≤ γ.sym i ∧ γ.sym i ≤ hi
theorem linOf_ok {γ : Cx} {x : AV} {k : IntKind} {p : Lin} {v : Value} (h : linOf x = some (k, p)) (hv : VR γ x v) : v = .int k (p.at γ) := by
  cases hv <;> simp [linOf] at h
  · obtain ⟨rfl, rfl⟩ := h; simp [Lin.at]
  · obtain ⟨rfl, rfl⟩ := h; rfl
theorem Lin.add_ok {γ : Cx} {x y z : Lin} (h : x.add y = some z) : z.at γ = x.at γ + y.at γ := by
  unfold Lin.add at h
  split at h
  · rename_i e; simp only [Option.some.injEq] at h; subst h; simp [Lin.at, e]; omega
  · split at h
    · rename_i e; simp only [Option.some.injEq] at h; subst h; simp [Lin.at, e]; omega
    · split at h
      · rename_i e; simp only [Option.some.injEq] at h; subst h; simp [Lin.at, e, Int.add_mul]; omega
      · cases h
theorem Lin.neg_ok {γ : Cx} (x : Lin) : x.neg.at γ = - x.at γ := by
  simp [Lin.at, Lin.neg, Int.neg_mul]; omega
theorem Lin.mul_ok {γ : Cx} {x y z : Lin} (h : x.mul y = some z) : z.at γ = x.at γ * y.at γ := by
  unfold Lin.mul at h
  split at h
  · rename_i e; simp only [Option.some.injEq] at h; subst h; simp [Lin.at, e, Int.add_mul]; rw [Int.mul_right_comm]
  · split at h
    · rename_i e; simp only [Option.some.injEq] at h; subst h; simp [Lin.at, e, Int.mul_add]; rw [Int.mul_comm y.a, Int.mul_assoc]
    · cases h
theorem Lin.range_ok {E : Env} {γ : Cx} (hs : SymOk E γ) {x : Lin} {lo hi : Int} (h : x.range E = some (lo, hi)) : lo ≤ x.at γ ∧ x.at γ ≤ hi := by
  unfold Lin.range at h
  split at h
  · rename_i e; simp only [Option.some.injEq, Prod.mk.injEq] at h; obtain ⟨rfl, rfl⟩ := h; simp [Lin.at, e]
  · cases hg : E.syms.get x.i with
    | none => simp [hg] at h
    | some r =>
      obtain ⟨l, u⟩ := r
      obtain ⟨h1, h2⟩ := hs hg
      simp only [hg] at h
      split at h <;> simp only [Option.some.injEq, Prod.mk.injEq] at h <;> obtain ⟨rfl, rfl⟩ := h
      · rename_i ha
        have a1 := Int.mul_le_mul_of_nonneg_left h1 ha
        have a2 := Int.mul_le_mul_of_nonneg_left h2 ha
        simp only [Lin.at]
        omega
      · rename_i ha
        have a1 := Int.mul_le_mul_of_nonpos_left (a := x.a) (by omega) h1
        have a2 := Int.mul_le_mul_of_nonpos_left (a := x.a) (by omega) h2
        simp only [Lin.at]
        omega
theorem inKind_mid {k : IntKind} {lo x hi : Int} (h1 : inKind k lo = true) (h2 : inKind k hi = true) (a : lo ≤ x) (b : x ≤ hi) : inKind k x = true := by
  simp only [inKind, Bool.and_eq_true, decide_eq_true_eq] at *
  omega
theorem Lin.val_ok {E : Env} {γ : Cx} (hs : SymOk E γ) {k : IntKind} {x : Lin} {v : AV} (h : x.val E k = some v) : VR γ v (.int k (k.wrap (x.at γ))) := by
  unfold Lin.val at h
  split at h
  · rename_i e
    simp only [Option.some.injEq] at h; subst h
    rw [wrapF_eq]
    simp [Lin.at, e]
    exact .int _ _
  · cases hr : x.range E with
    | none => simp [hr] at h
    | some r =>
      obtain ⟨lo, hi⟩ := r
      obtain ⟨h1, h2⟩ := Lin.range_ok hs hr
      simp only [hr] at h
      split at h
      · rename_i hk
        simp only [Bool.and_eq_true] at hk
        simp only [Option.some.injEq] at h; subst h
        rw [wrap_in (inKind_mid hk.1 hk.2 h1 h2)]
        exact .lin _ _ _ _
      · cases h
theorem cmpR_ok {op : BinOp} {lo hi d : Int} {b : Bool} (h : cmpR op lo hi = some b) (h1 : lo ≤ d) (h2 : d ≤ hi) {x y : Int} (hd : d = x + - y) : cmpI op x y = some b := by
  unfold cmpR at h
  split at h
  · rename_i e
    obtain rfl : d = lo := by omega
    cases op <;> simp only [cmpI, Option.some.injEq] at h ⊢ <;> (try (cases h; done)) <;> subst h <;> rw [Bool.eq_iff_iff] <;> simp <;> omega
  · cases op <;> simp only [cmpI] at h ⊢ <;> (repeat' split at h) <;> (try (cases h; done)) <;> simp only [Option.some.injEq] at h ⊢ <;> subst h <;> simp <;> omega

theorem linOp_ok {E : Env} {γ : Cx} (hs : SymOk E γ) {P : Program} {w : World} {op : BinOp} {t : TypeId} {xo yo : Operand} {k : IntKind} {p q : Lin} {v : AV} (h : linOp E op k p q = some v) :
    ∃ v', BinDoes P w op t xo yo (.int k (p.at γ)) (.int k (q.at γ)) v' ∧ VR γ v v' := by
  have cmp : ∀ {b : Bool}, cmpI op (p.at γ) (q.at γ) = some b → v = .bool b → ∃ v', BinDoes P w op t xo yo (.int k (p.at γ)) (.int k (q.at γ)) v' ∧ VR γ v v' := fun {b} hc hv => by
    subst hv
    refine intOp_ok (k := k) (k' := k) (by simp) ?_
    cases op <;> simp only [cmpI] at hc <;> first | (cases hc; done) | simp only [intOp, cmpI, Option.map_some, hc]
  unfold linOp at h
  split at h
  · cases hz : p.add q with
    | none => simp [hz] at h
    | some z =>
      simp only [hz, Option.bind_some] at h
      have := Lin.val_ok hs h
      rw [Lin.add_ok hz] at this
      exact ⟨_, ⟨eqGuard_int, by simp [Go.binOp, Op.intArith, Int.sub_eq_add_neg]⟩, this⟩
  · cases hz : p.add q.neg with
    | none => simp [hz] at h
    | some z =>
      simp only [hz, Option.bind_some] at h
      have := Lin.val_ok hs h
      rw [Lin.add_ok hz, Lin.neg_ok] at this
      exact ⟨_, ⟨eqGuard_int, by simp [Go.binOp, Op.intArith, Int.sub_eq_add_neg]⟩, this⟩
  · cases hz : p.mul q with
    | none => simp [hz] at h
    | some z =>
      simp only [hz, Option.bind_some] at h
      have := Lin.val_ok hs h
      rw [Lin.mul_ok hz] at this
      exact ⟨_, ⟨eqGuard_int, by simp [Go.binOp, Op.intArith, Int.sub_eq_add_neg]⟩, this⟩
  · cases hr : p.range E with
    | none => simp [hr] at h
    | some r =>
      obtain ⟨lo, hi⟩ := r
      simp only [hr] at h
      split at h
      · rename_i hc
        obtain ⟨c1, c2, c3, c4⟩ := hc
        simp only [Option.some.injEq] at h
        obtain ⟨r1, _⟩ := Lin.range_ok hs hr
        have e1 : q.at γ = q.c := by simp [Lin.at, c1]
        have e2 : (p.at γ).tmod (q.at γ) = p.c % q.c := by
          rw [Int.tmod_eq_emod_of_nonneg (by omega), e1]
          obtain ⟨m, hm⟩ := Int.dvd_of_emod_eq_zero c3
          unfold Lin.at
          rw [hm, Int.mul_assoc, Int.mul_add_emod_self_left]
        refine intOp_ok (k := k) (k' := k) (by simp) ?_
        simp only [intOp]
        rw [if_neg (by rw [e1]; omega), e2, h]
      · cases h
  · cases hr : p.range E with
    | none => simp [hr] at h
    | some r =>
      obtain ⟨lo, hi⟩ := r
      simp only [hr] at h
      split at h
      · rename_i hc
        obtain ⟨c1, c2, c3, c4⟩ := hc
        obtain ⟨r1, _⟩ := Lin.range_ok hs hr
        have e1 : q.at γ = q.c := by simp [Lin.at, c1]
        have e2 : (p.at γ).tdiv (q.at γ) = (Lin.mk p.i (p.a / q.c) (p.c / q.c)).at γ := by
          rw [Int.tdiv_eq_ediv_of_nonneg (by omega), e1]
          obtain ⟨m, hm⟩ := Int.dvd_of_emod_eq_zero c3
          unfold Lin.at
          simp only
          rw [hm, Int.mul_assoc, Int.mul_ediv_cancel_left _ (by omega), Int.add_comm (q.c * (m * γ.sym p.i)) p.c, Int.add_mul_ediv_left _ _ (by omega), Int.add_comm]
        have := Lin.val_ok hs h
        rw [← e2] at this
        refine ⟨_, ⟨eqGuard_int, ?_⟩, this⟩
        have hne : q.at γ ≠ 0 := by rw [e1]; omega
        simp [Go.binOp, Op.intDiv, hne]
      · cases h
  · cases hz : p.add q.neg with
    | none => simp [hz] at h
    | some z =>
      simp only [hz] at h
      cases hr : z.range E with
      | none => simp [hr] at h
      | some r =>
        obtain ⟨lo, hi⟩ := r
        simp only [hr] at h
        obtain ⟨h1, h2⟩ := Lin.range_ok hs hr
        cases hc : cmpR op lo hi with
        | none => simp [hc] at h
        | some b =>
          simp only [hc, Option.map_some, Option.some.injEq] at h
          exact cmp (cmpR_ok hc h1 h2 (by rw [Lin.add_ok hz, Lin.neg_ok])) h.symm
end Go.Proofs.YtfcfliclmjikkaaGreatDoor.Ex
