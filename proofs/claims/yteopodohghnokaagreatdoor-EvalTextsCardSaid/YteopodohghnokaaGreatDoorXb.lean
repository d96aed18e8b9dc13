/- The plain runner's reckoning. -/
import Derived.Test.YteopodohghnokaaGreatDoorXa
import Derived.Laws.StructEq
section
namespace Go.Proofs.YteopodohghnokaaGreatDoor.Ex
open Go
set_option linter.unusedVariables false
set_option linter.unusedSimpArgs false

theorem wrap_in {k : IntKind} {n : Int} (h : inKind k n = true) : k.wrap n = n := by
  simp only [inKind, Bool.and_eq_true, decide_eq_true_eq] at h
  obtain ⟨h1, h2⟩ := h
  cases k <;> simp only [lowOf, highOf] at h1 h2 <;> unfold IntKind.wrap <;> simp [IntKind.bits, IntKind.signed] <;> omega
theorem wrapF_eq (k : IntKind) (n : Int) : wrapF k n = k.wrap n := by
  unfold wrapF
  cases h : inKind k n
  · rfl
  · simp [wrap_in h]

/-- Does the operation of two values come to this one? -/
def BinDoes (P : Program) (w : World) (op : BinOp) (t : TypeId) (xo yo : Operand) (x y v : Value) : Prop :=
  (eqGuard op t xo yo x y).run P w = .ok () w ∧ (Go.binOp op t x y).run P w = .ok v w

theorem cmpI_ok {op : BinOp} {x y : Int} {b : Bool} (h : cmpI op x y = some b) {P : Program} {w : World} : (Op.intCmp op x y).run P w = .ok (.bool b) w := by
  cases op <;> simp [cmpI] at h <;> subst h <;> simp [Op.intCmp]

theorem eqGuard_int {P : Program} {w : World} {op : BinOp} {t : TypeId} {xo yo : Operand} {k k' : IntKind} {x y : Int} : (eqGuard op t xo yo (.int k x) (.int k' y)).run P w = .ok () w := by
  cases op <;> simp [eqGuard]
theorem eqGuard_str {P : Program} {w : World} {op : BinOp} {t : TypeId} {xo yo : Operand} {x y : ByteArray} : (eqGuard op t xo yo (.string x) (.string y)).run P w = .ok () w := by
  cases op <;> simp [eqGuard]

theorem intOp_ok {γ : Cx} {P : Program} {w : World} {op : BinOp} {t : TypeId} {xo yo : Operand} {k k' : IntKind} {x y : Int} {v : AV}
    (hk : (isShift op || decide (k = k')) = true) (h : intOp op k x y = some v) : ∃ v', BinDoes P w op t xo yo (.int k x) (.int k' y) v' ∧ VR γ v v' := by
  suffices ∃ v', (Go.binOp op t (.int k x) (.int k' y)).run P w = .ok v' w ∧ VR γ v v' by
    obtain ⟨v', h1, h2⟩ := this
    exact ⟨v', ⟨eqGuard_int, h1⟩, h2⟩
  cases op <;> simp only [isShift, Bool.true_or, Bool.false_or, decide_eq_true_eq] at hk
  case shl =>
    simp only [intOp] at h
    split at h
    · cases h
    · rename_i hy
      simp only [Option.some.injEq] at h; subst h
      exact ⟨_, by simp [Go.binOp, Op.shift, hy], .int _ _⟩
  case shr =>
    simp only [intOp] at h
    split at h
    · cases h
    · rename_i hy
      simp only [Option.some.injEq] at h; subst h
      exact ⟨_, by simp [Go.binOp, Op.shift, hy], .int _ _⟩
  case quo =>
    subst hk
    simp only [intOp] at h
    split at h
    · cases h
    · rename_i hy
      simp only [Option.some.injEq] at h; subst h
      exact ⟨.int k (k.wrap (x.tdiv y)), by simp [Go.binOp, Op.intDiv, hy], by rw [wrapF_eq]; exact .int _ _⟩
  case rem =>
    subst hk
    simp only [intOp] at h
    split at h
    · cases h
    · rename_i hy
      simp only [Option.some.injEq] at h; subst h
      exact ⟨_, by simp [Go.binOp, Op.intDiv, hy], .int _ _⟩
  all_goals
    subst hk
    simp only [intOp, cmpI, Option.map_some, Option.some.injEq] at h
    subst h
    try simp only [wrapF_eq]
    first
      | exact ⟨.int k _, by simp only [Go.binOp, ne_eq, not_true_eq_false, if_false, Op.intArith, Op.intBits]; rfl, .int _ _⟩
      | exact ⟨.bool _, by simp only [Go.binOp, ne_eq, not_true_eq_false, if_false, Op.intCmp]; rfl, .bool _⟩

theorem size_ofList (x : List UInt8) : (⟨x.toArray⟩ : ByteArray).size = x.length := rfl
theorem toList_ofList (x : List UInt8) : (⟨x.toArray⟩ : ByteArray).toList = x := by rw [ByteArray.toList_eq]
theorem append_ofList (x y : List UInt8) : (⟨x.toArray⟩ : ByteArray) ++ ⟨y.toArray⟩ = ⟨(x ++ y).toArray⟩ := by
  apply ByteArray.ext
  simp [ByteArray.data_append]

theorem strOp_ok {γ : Cx} {P : Program} {w : World} {op : BinOp} {t : TypeId} {xo yo : Operand} {x y : List UInt8} {v : AV} (h : strOp op x y = some v) :
    ∃ v', BinDoes P w op t xo yo (.string ⟨x.toArray⟩) (.string ⟨y.toArray⟩) v' ∧ VR γ v v' := by
  suffices ∃ v', (Go.binOp op t (.string ⟨x.toArray⟩) (.string ⟨y.toArray⟩)).run P w = .ok v' w ∧ VR γ v v' by
    obtain ⟨v', h1, h2⟩ := this
    exact ⟨v', ⟨eqGuard_str, h1⟩, h2⟩
  cases op <;> simp only [strOp] at h <;> try (cases h; done)
  case add =>
    split at h
    · rename_i hl
      simp only [Option.some.injEq] at h; subst h
      have : ¬ ((9223372036854775807 : Int) < (x.length : Int) + (y.length : Int)) := by omega
      refine ⟨.string ⟨(x ++ y).toArray⟩, ?_, .str _⟩
      simp [Go.binOp, Op.stringOp, size_ofList, append_ofList, IntKind.max, IntKind.signed, IntKind.bits, this]
    · cases h
  all_goals
    simp only [Option.some.injEq] at h
    subst h
    exact ⟨_, by simp [Go.binOp, Op.stringOp, toList_ofList], .bool _⟩

/-! ### Unknown numbers -/
def Lin.at (γ : Cx) (x : Lin) : Int := x.a * γ.sym x.i + x.c
def SymOk (E : Env) (γ : Cx) : Prop := ∀ {i : Nat} {lo hi : Int}, E.syms.get i = some (lo, hi) → lo ≤ γ.sym i ∧ γ.sym i ≤ hi
theorem linOf_ok {γ : Cx} {x : AV} {k : IntKind} {p : Lin} {v : Value} (h : linOf x = some (k, p)) (hv : VR γ x v) : v = .int k (p.at γ) := by
  cases hv <;> simp [linOf] at h
  · obtain ⟨rfl, rfl⟩ := h; simp [Lin.at]
  · obtain ⟨rfl, rfl⟩ := h; rfl
theorem Lin.add_ok {γ : Cx} {x y z : Lin} (h : x.add y = some z) : z.at γ = x.at γ + y.at γ := by
  unfold Lin.add at h
  split at h
  · rename_i e; simp only [Option.some.injEq] at h; subst h; simp [Lin.at, e]; omega
  · split at h
    · rename_i e; simp only [Option.some.injEq] at h; subst h; simp [Lin.at, e]; omega
    · split at h
      · rename_i e; simp only [Option.some.injEq] at h; subst h; simp [Lin.at, e, Int.add_mul]; omega
      · cases h
theorem Lin.neg_ok {γ : Cx} (x : Lin) : x.neg.at γ = - x.at γ := by
  simp [Lin.at, Lin.neg, Int.neg_mul]; omega
theorem Lin.mul_ok {γ : Cx} {x y z : Lin} (h : x.mul y = some z) : z.at γ = x.at γ * y.at γ := by
  unfold Lin.mul at h
  split at h
  · rename_i e; simp only [Option.some.injEq] at h; subst h; simp [Lin.at, e, Int.add_mul]; rw [Int.mul_right_comm]
  · split at h
    · rename_i e; simp only [Option.some.injEq] at h; subst h; simp [Lin.at, e, Int.mul_add]; rw [Int.mul_comm y.a, Int.mul_assoc]
    · cases h
theorem Lin.range_ok {E : Env} {γ : Cx} (hs : SymOk E γ) {x : Lin} {lo hi : Int} (h : x.range E = some (lo, hi)) : lo ≤ x.at γ ∧ x.at γ ≤ hi := by
  unfold Lin.range at h
  split at h
  · rename_i e; simp only [Option.some.injEq, Prod.mk.injEq] at h; obtain ⟨rfl, rfl⟩ := h; simp [Lin.at, e]
  · cases hg : E.syms.get x.i with
    | none => simp [hg] at h
    | some r =>
      obtain ⟨l, u⟩ := r
      obtain ⟨h1, h2⟩ := hs hg
      simp only [hg] at h
      split at h <;> simp only [Option.some.injEq, Prod.mk.injEq] at h <;> obtain ⟨rfl, rfl⟩ := h
      · rename_i ha
        have a1 := Int.mul_le_mul_of_nonneg_left h1 ha
        have a2 := Int.mul_le_mul_of_nonneg_left h2 ha
        simp only [Lin.at]
        omega
      · rename_i ha
        have a1 := Int.mul_le_mul_of_nonpos_left (a := x.a) (by omega) h1
        have a2 := Int.mul_le_mul_of_nonpos_left (a := x.a) (by omega) h2
        simp only [Lin.at]
        omega
theorem inKind_mid {k : IntKind} {lo x hi : Int} (h1 : inKind k lo = true) (h2 : inKind k hi = true) (a : lo ≤ x) (b : x ≤ hi) : inKind k x = true := by
  simp only [inKind, Bool.and_eq_true, decide_eq_true_eq] at *
  omega
theorem Lin.val_ok {E : Env} {γ : Cx} (hs : SymOk E γ) {k : IntKind} {x : Lin} {v : AV} (h : x.val E k = some v) : VR γ v (.int k (k.wrap (x.at γ))) := by
  unfold Lin.val at h
  split at h
  · rename_i e
    simp only [Option.some.injEq] at h; subst h
    rw [wrapF_eq]
    simp [Lin.at, e]
    exact .int _ _
  · cases hr : x.range E with
    | none => simp [hr] at h
    | some r =>
      obtain ⟨lo, hi⟩ := r
      obtain ⟨h1, h2⟩ := Lin.range_ok hs hr
      simp only [hr] at h
      split at h
      · rename_i hk
        simp only [Bool.and_eq_true] at hk
        simp only [Option.some.injEq] at h; subst h
        rw [wrap_in (inKind_mid hk.1 hk.2 h1 h2)]
        exact .lin _ _ _ _
      · cases h
theorem cmpR_ok {op : BinOp} {lo hi d : Int} {b : Bool} (h : cmpR op lo hi = some b) (h1 : lo ≤ d) (h2 : d ≤ hi) {x y : Int} (hd : d = x + - y) : cmpI op x y = some b := by
  unfold cmpR at h
  split at h
  · rename_i e
    obtain rfl : d = lo := by omega
    cases op <;> simp only [cmpI, Option.some.injEq] at h ⊢ <;> (try (cases h; done)) <;> subst h <;> rw [Bool.eq_iff_iff] <;> simp <;> omega
  · cases op <;> simp only [cmpI] at h ⊢ <;> (repeat' split at h) <;> (try (cases h; done)) <;> simp only [Option.some.injEq] at h ⊢ <;> subst h <;> simp <;> omega

theorem linOp_ok {E : Env} {γ : Cx} (hs : SymOk E γ) {P : Program} {w : World} {op : BinOp} {t : TypeId} {xo yo : Operand} {k : IntKind} {p q : Lin} {v : AV} (h : linOp E op k p q = some v) :
    ∃ v', BinDoes P w op t xo yo (.int k (p.at γ)) (.int k (q.at γ)) v' ∧ VR γ v v' := by
  have cmp : ∀ {b : Bool}, cmpI op (p.at γ) (q.at γ) = some b → v = .bool b → ∃ v', BinDoes P w op t xo yo (.int k (p.at γ)) (.int k (q.at γ)) v' ∧ VR γ v v' := fun {b} hc hv => by
    subst hv
    refine intOp_ok (k := k) (k' := k) (by simp) ?_
    cases op <;> simp only [cmpI] at hc <;> first | (cases hc; done) | simp only [intOp, cmpI, Option.map_some, hc]
  unfold linOp at h
  split at h
  · cases hz : p.add q with
    | none => simp [hz] at h
    | some z =>
      simp only [hz, Option.bind_some] at h
      have := Lin.val_ok hs h
      rw [Lin.add_ok hz] at this
      exact ⟨_, ⟨eqGuard_int, by simp [Go.binOp, Op.intArith, Int.sub_eq_add_neg]⟩, this⟩
  · cases hz : p.add q.neg with
    | none => simp [hz] at h
    | some z =>
      simp only [hz, Option.bind_some] at h
      have := Lin.val_ok hs h
      rw [Lin.add_ok hz, Lin.neg_ok] at this
      exact ⟨_, ⟨eqGuard_int, by simp [Go.binOp, Op.intArith, Int.sub_eq_add_neg]⟩, this⟩
  · cases hz : p.mul q with
    | none => simp [hz] at h
    | some z =>
      simp only [hz, Option.bind_some] at h
      have := Lin.val_ok hs h
      rw [Lin.mul_ok hz] at this
      exact ⟨_, ⟨eqGuard_int, by simp [Go.binOp, Op.intArith, Int.sub_eq_add_neg]⟩, this⟩
  · cases hr : p.range E with
    | none => simp [hr] at h
    | some r =>
      obtain ⟨lo, hi⟩ := r
      simp only [hr] at h
      split at h
      · rename_i hc
        obtain ⟨c1, c2, c3, c4⟩ := hc
        simp only [Option.some.injEq] at h
        obtain ⟨r1, _⟩ := Lin.range_ok hs hr
        have e1 : q.at γ = q.c := by simp [Lin.at, c1]
        have e2 : (p.at γ).tmod (q.at γ) = p.c % q.c := by
          rw [Int.tmod_eq_emod_of_nonneg (by omega), e1]
          obtain ⟨m, hm⟩ := Int.dvd_of_emod_eq_zero c3
          unfold Lin.at
          rw [hm, Int.mul_assoc, Int.mul_add_emod_self_left]
        refine intOp_ok (k := k) (k' := k) (by simp) ?_
        simp only [intOp]
        rw [if_neg (by rw [e1]; omega), e2, h]
      · cases h
  · cases hr : p.range E with
    | none => simp [hr] at h
    | some r =>
      obtain ⟨lo, hi⟩ := r
      simp only [hr] at h
      split at h
      · rename_i hc
        obtain ⟨c1, c2, c3, c4⟩ := hc
        obtain ⟨r1, _⟩ := Lin.range_ok hs hr
        have e1 : q.at γ = q.c := by simp [Lin.at, c1]
        have e2 : (p.at γ).tdiv (q.at γ) = (Lin.mk p.i (p.a / q.c) (p.c / q.c)).at γ := by
          rw [Int.tdiv_eq_ediv_of_nonneg (by omega), e1]
          obtain ⟨m, hm⟩ := Int.dvd_of_emod_eq_zero c3
          unfold Lin.at
          simp only
          rw [hm, Int.mul_assoc, Int.mul_ediv_cancel_left _ (by omega), Int.add_comm (q.c * (m * γ.sym p.i)) p.c, Int.add_mul_ediv_left _ _ (by omega), Int.add_comm]
        have := Lin.val_ok hs h
        rw [← e2] at this
        refine ⟨_, ⟨eqGuard_int, ?_⟩, this⟩
        have hne : q.at γ ≠ 0 := by rw [e1]; omega
        simp [Go.binOp, Op.intDiv, hne]
      · cases h
  · cases hz : p.add q.neg with
    | none => simp [hz] at h
    | some z =>
      simp only [hz] at h
      cases hr : z.range E with
      | none => simp [hr] at h
      | some r =>
        obtain ⟨lo, hi⟩ := r
        simp only [hr] at h
        obtain ⟨h1, h2⟩ := Lin.range_ok hs hr
        cases hc : cmpR op lo hi with
        | none => simp [hc] at h
        | some b =>
          simp only [hc, Option.map_some, Option.some.injEq] at h
          exact cmp (cmpR_ok hc h1 h2 (by rw [Lin.add_ok hz, Lin.neg_ok])) h.symm
end Go.Proofs.YteopodohghnokaaGreatDoor.Ex
end
section
namespace Go.Proofs.YteopodohghnokaaGreatDoor.Ex
open Go
set_option linter.unusedVariables false
set_option linter.unusedSimpArgs false
section
variable {E : Env} {γ : Cx} {w : World}

theorem partA_ok {P : Program} {t : TypeId} {info : TypeInfo} {d : TypeDesc} {z : Option (List AV)} {q : Bool} {b : Nat} (h1 : P.info? t = some info) (h2 : P.underlying t = some d) {cs : List AV} {cs' : Array Value} (hc : VRs γ cs cs'.toList) {o : Nat} {v : AV}
    (h : partA ⟨kindOf d, info.size, b, z, q⟩ cs o = some v) : ∃ v', (part t cs' o).run P w = .ok v' w ∧ VR γ v v' := by
  unfold partA at h
  simp only at h
  split at h
  · rename_i hagg
    simp only [Option.some.injEq] at h
    subst h
    refine ⟨.agg (cs'.extract o (o + info.size)), by simp [part, isAgg_run h2, hagg, sizeOf, typeInfo, h1], .agg ?_⟩
    have := (hc.drop o).take info.size
    have e : (cs'.extract o (o + info.size)).toList = (cs'.toList.drop o).take info.size := by
      simp [Array.toList_extract, List.extract]
    rw [e]
    exact this
  · rename_i hagg
    have hagg' : (kindOf d).isAgg = false := by simpa using hagg
    obtain ⟨v', e1, e2⟩ := hc.get o h
    have e1' : cs'[o]? = some v' := by simpa using e1
    exact ⟨v', by simp [part, isAgg_run h2, hagg', e1'], e2⟩

theorem eqLeaf_ok {P : Program} {t : TypeId} {d : TypeDesc} (h2 : P.underlying t = some d) {x y : AV} {x' y' : Value} (hx : VR γ x x') (hy : VR γ y y') {b : Bool} (h : eqLeaf (kindOf d) x y = some b) (n : Nat) :
    (Op.equalIn (n + 1) t x' y').run P w = .ok b w ∧ ∀ (op : BinOp) (xo yo : Operand), (eqGuard op t xo yo x' y').run P w = .ok () w := by
  generalize hkd : kindOf d = kd at h
  unfold eqLeaf at h
  split at h
  case h_15 => cases h
  case h_2 =>
    split at h
    · rename_i hk
      simp only [Option.some.injEq] at h; subst h hk
      cases hx; cases hy
      cases d <;> simp [kindOf] at hkd
      exact ⟨by simp [Op.equalIn, run_underlying h2], fun op xo yo => by cases op <;> simp [eqGuard]⟩
    · cases h
  all_goals
    simp only [Option.some.injEq] at h; subst h
    cases hx; cases hy
    cases d <;> simp [kindOf] at hkd
    exact ⟨by simp [Op.equalIn, run_underlying h2, beq_toListBytes, toList_ofList], fun op xo yo => by cases op <;> simp [eqGuard]⟩

theorem eqLin_ok {P : Program} (hs : SymOk E γ) {t : TypeId} {d : TypeDesc} (h2 : P.underlying t = some d) {x y : AV} {x' y' : Value} (hx : VR γ x x') (hy : VR γ y y') {b : Bool} (h : eqLin E (kindOf d) x y = some b) (n : Nat) :
    (Op.equalIn (n + 1) t x' y').run P w = .ok b w ∧ ∀ (op : BinOp) (xo yo : Operand), (eqGuard op t xo yo x' y').run P w = .ok () w := by
  unfold eqLin at h
  split at h
  · rename_i k0 hk0
    obtain rfl := kind_int hk0
    split at h
    · rename_i k p hp
      split at h
      · rename_i k' q hq
        split at h
        · rename_i hkk
          subst hkk
          split at h
          · rename_i z hz
            split at h
            · rename_i lo hi hr
              obtain ⟨r1, r2⟩ := Lin.range_ok hs hr
              have e1 := linOf_ok hp hx
              have e2 := linOf_ok hq hy
              have hz' := Lin.add_ok (γ := γ) hz
              rw [Lin.neg_ok] at hz'
              have hc := cmpR_ok h r1 r2 hz'
              simp only [cmpI, Option.some.injEq] at hc
              subst e1 e2
              refine ⟨by simp [Op.equalIn, run_underlying h2, hc], fun op xo yo => eqGuard_int⟩
            · cases h
          · cases h
        · cases h
      · cases h
    · cases h
  · cases h
theorem eqT_ok (ok : TyOk E) (hs : SymOk E γ) : ∀ (n : Nat) {t : TypeId} {x y : AV} {x' y' : Value} {b : Bool}, eqT E n t x y = some b → VR γ x x' → VR γ y y' → ∀ d, n ≤ d →
    (Op.equalIn d t x' y').run E.P w = .ok b w ∧ ∀ (op : BinOp) (xo yo : Operand), (eqGuard op t xo yo x' y').run E.P w = .ok () w
  | 0, _, _, _, _, _, _, h, _, _, _, _ => by simp [eqT] at h
  | n + 1, t, x, y, x', y', b, h, hx, hy, d, hd => by
    obtain ⟨d, rfl⟩ : ∃ d', d = d' + 1 := ⟨d - 1, by omega⟩
    unfold eqT at h
    cases ht : E.ty.get t with
    | none => simp [ht] at h
    | some i =>
      obtain ⟨info, dd, h1, h2, rfl⟩ := tiOf_ok (ok.ty ht)
      simp only [ht] at h
      split at h
      · rename_i fs l r hk
        obtain ⟨f, rfl, rfl⟩ := kind_struct hk
        split at h
        · rename_i heq
          simp only [plainEq, Bool.and_eq_true, Bool.not_eq_true'] at heq
          obtain ⟨⟨q1, q2⟩, q3⟩ := heq
          cases hx with
          | agg hl =>
            cases hy with
            | agg hr =>
              rename_i l' r'
              have hfo : E.P.fieldsOf t = f := by simp [Program.fieldsOf, h2]
              refine ⟨?_, fun op xo yo => by cases op <;> simp [eqGuard, q1]⟩
              rw [run_equalIn_struct w d t l' r' (by rw [hfo]; exact h2) q2, hfo]
              clear hk h2 h1 ht hfo
              generalize f.toList = fl at h q3
              clear q1 q2
              induction fl with
              | nil =>
                simp only [List.map_nil, eqT.eqF, Option.some.injEq] at h
                subst h
                simp [Op.eqFields]
              | cons g fl ih =>
                simp only [List.map_cons, eqT.eqF] at h
                simp only [List.all_cons, Bool.and_eq_true, bne_iff_ne, ne_eq] at q3
                cases hg : E.ty.get g.type with
                | none => simp [hg] at h
                | some j =>
                  obtain ⟨ginfo, gd, g1, g2, rfl⟩ := tiOf_ok (ok.ty hg)
                  simp only [hg] at h
                  split at h
                  · rename_i a c ha hc
                    obtain ⟨a', a1, a2⟩ := partA_ok (w := w) g1 g2 hl ha
                    obtain ⟨c', c1, c2⟩ := partA_ok (w := w) g1 g2 hr hc
                    split at h
                    · rename_i he
                      have := (eqT_ok ok hs n he a2 c2 d (by omega)).1
                      simp only [Op.eqFields, q3.1, ne_eq, not_false_eq_true, if_true, Sem.run_bind, a1, c1, Result.andThen_ok, this, Bool.not_true, Bool.false_eq_true, if_false]
                      exact ih h (by simpa using q3.2)
                    · rename_i hne
                      cases b with
                      | true => exact absurd h (hne)
                      | false =>
                        have := (eqT_ok ok hs n h a2 c2 d (by omega)).1
                        simp [Op.eqFields, q3.1, a1, c1, this]
                  · cases h
        · cases h
      · rename_i t1 v1 t2 v2 hk
        cases hx with
        | iface hx1 =>
          cases hy with
          | iface hy1 =>
            obtain ⟨ms, rfl⟩ := kind_iface hk
            refine ⟨?_, fun op xo yo => by cases op <;> simp [eqGuard]⟩
            split at h
            · rename_i hne
              simp only [Option.some.injEq] at h
              subst h
              have hne := Nat.ne_of_beq_eq_false hne
              simp [Op.equalIn, run_underlying h2, hne]
            · rename_i heq
              have heq := Nat.eq_of_beq_eq_true heq
              subst heq
              split at h
              · rename_i j hj
                obtain ⟨jinfo, jd, j1, j2, rfl⟩ := tiOf_ok (ok.ty hj)
                cases hc : (!(TK.isAgg (kindOf jd)) && plainEq E.P t1 jd) with
                | false => rw [hc] at h; cases h
                | true =>
                  rw [hc] at h
                  rw [Bool.and_eq_true] at hc
                  have hcmp : jinfo.comparable = true := by
                    obtain ⟨c1, c2⟩ := hc
                    cases jd <;> first | (simp [kindOf, TK.isAgg] at c1; done) | (simpa [plainEq, j1] using c2)
                  have := (eqT_ok ok hs n h hx1 hy1 d (by omega)).1
                  simp [Op.equalIn, run_underlying h2, typeInfo, j1, hcmp, this]
              · cases h
      · split at h
        · rename_i b' hb'
          simp only [Option.some.injEq] at h
          subst h
          exact eqLeaf_ok h2 hx hy hb' d
        · exact eqLin_ok hs h2 hx hy h d

end
end Go.Proofs.YteopodohghnokaaGreatDoor.Ex
end
section
namespace Go.Proofs.YteopodohghnokaaGreatDoor.Ex
open Go
set_option linter.unusedVariables false
set_option linter.unusedSimpArgs false
section
variable {E : Env} {γ : Cx} {N : Nat} {H : AH} {w : World} {F : Fr} {a : Act}

theorem eqLeaf_bin {k : TK} {t : TypeId} {x y : AV} {x' y' : Value} (hx : VR γ x x') (hy : VR γ y y') {b : Bool} (h : eqLeaf k x y = some b) (hl : linOf x = none) (hs : ∀ s s', x = .str s → y = .str s' → False) :
    Go.binOp .eql t x' y' = (do pure (.bool (← Op.equal t x' y'))) ∧ Go.binOp .neq t x' y' = (do pure (.bool (!(← Op.equal t x' y')))) := by
  unfold eqLeaf at h
  split at h
  case h_15 => cases h
  case h_2 => simp [linOf] at hl
  case h_3 => exact absurd rfl (fun e => hs _ _ e rfl)
  all_goals
    cases hx; cases hy
    exact ⟨rfl, rfl⟩
theorem eqT_bin {n : Nat} {t : TypeId} {x y : AV} {x' y' : Value} (hx : VR γ x x') (hy : VR γ y y') {b : Bool} (h : eqT E (n + 1) t x y = some b) (hl : linOf x = none) (hs : ∀ s s', x = .str s → y = .str s' → False) :
    Go.binOp .eql t x' y' = (do pure (.bool (← Op.equal t x' y'))) ∧ Go.binOp .neq t x' y' = (do pure (.bool (!(← Op.equal t x' y')))) := by
  unfold eqT at h
  split at h
  · cases h
  · split at h
    · cases hx; cases hy
      exact ⟨rfl, rfl⟩
    · cases hx; cases hy
      exact ⟨rfl, rfl⟩
    · split at h
      · rename_i b' hb'
        exact eqLeaf_bin hx hy hb' hl hs
      · unfold eqLin at h
        split at h
        · rw [hl] at h; cases h
        · cases h

theorem binE_ok (ok : TyOk E) (hsy : SymOk E γ) {op : BinOp} {t : TypeId} {xo yo : Operand} {x y v : AV} {x' y' : Value} (hx : VR γ x x') (hy : VR γ y y') (hl : linOf x = none) (hs : ∀ s s', x = .str s → y = .str s' → False) (h : binE E op t x y = some v) :
    ∃ v', BinDoes E.P w op t xo yo x' y' v' ∧ VR γ v v' := by
  cases op <;> simp only [binE] at h <;> try (cases h; done)
  all_goals
    cases he : eqT E 20 t x y with
    | none => simp [he] at h
    | some b =>
      simp only [he, Option.map_some, Option.some.injEq] at h
      subst h
      obtain ⟨h1, h2⟩ := eqT_ok (w := w) ok hsy 20 he hx hy Op.maxDepth (by unfold Op.maxDepth; omega)
      obtain ⟨b1, b2⟩ := eqT_bin (t := t) hx hy he hl hs
      refine ⟨_, ⟨h2 _ _ _, ?_⟩, .bool _⟩
      first
        | (rw [b1]; simp [Op.equal, h1]; done)
        | (rw [b2]; simp [Op.equal, h1]; done)

theorem Rel.symOk (h : Rel E γ N H.bs.get w) : SymOk E γ := fun e => h.sym e

theorem binA_ok (ok : TyOk E) (hs : SymOk E γ) {op : BinOp} {t : TypeId} {xo yo : Operand} {x y v : AV} {x' y' : Value} (hx : VR γ x x') (hy : VR γ y y') (h : binA E op t x y = some v) :
    ∃ v', BinDoes E.P w op t xo yo x' y' v' ∧ VR γ v v' := by
  unfold binA at h
  split at h
  · cases hx; cases hy
    split at h
    · rename_i hk
      exact intOp_ok hk h
    · cases h
  · cases hx; cases hy
    exact strOp_ok h
  · rename_i hno1 hno2
    unfold binL at h
    cases hlx : linOf x with
    | some p =>
      obtain ⟨k, p⟩ := p
      simp only [hlx] at h
      cases hly : linOf y with
      | none => simp [hly] at h
      | some q =>
        obtain ⟨k', q⟩ := q
        simp only [hly] at h
        split at h
        · rename_i hk
          subst hk
          rw [linOf_ok hlx hx, linOf_ok hly hy]
          exact linOp_ok hs h
        · cases h
    | none =>
      simp only [hlx] at h
      exact binE_ok ok hs hx hy hlx (fun s s' e1 e2 => hno2 _ _ e1 e2) h

theorem isIfc_ok (ok : TyOk E) {t : TypeId} (h : isIfc E.ty t = true) : ∃ ms, E.P.underlying t = some (.interface ms) := by
  unfold isIfc at h
  split at h
  · rename_i i hi
    split at h
    · rename_i hk
      obtain ⟨info, d, h1, h2, rfl⟩ := tiOf_ok (ok.ty hi)
      obtain ⟨ms, rfl⟩ := kind_iface hk
      exact ⟨ms, h2⟩
    · cases h
  · cases h
theorem nilB_ok (ok : TyOk E) {op : BinOp} {t : TypeId} {xo yo : Operand} {x y v : AV} {x' y' : Value} (hx : VR γ x x') (hy : VR γ y y') (h : nilB E op t xo yo x y = some v) :
    ∃ v', BinDoes E.P w op t xo yo x' y' v' ∧ VR γ v v' := by
  unfold nilB at h
  split at h
  · cases hx; cases hy
    cases hb : ((isK xo || isK yo) && isIfc E.ty t) with
    | false => rw [hb] at h; cases h
    | true =>
      rw [hb] at h
      simp only [cond_true] at h
      rw [Bool.and_eq_true] at hb
      obtain ⟨ms, hu⟩ := isIfc_ok ok hb.2
      have hg : ∀ op, (eqGuard op t xo yo .nilIface .nilIface).run E.P w = .ok () w := fun op => by
        have h1 := hb.1
        cases op <;> cases xo <;> cases yo <;> first | rfl | (simp [isK] at h1; done) | simp [eqGuard, run_underlying hu]
      have he : (Op.equal t .nilIface .nilIface).run E.P w = .ok true w := by
        obtain ⟨n, hn⟩ : ∃ n, Op.maxDepth = n + 1 := ⟨Op.maxDepth - 1, by unfold Op.maxDepth; omega⟩
        unfold Op.equal
        rw [hn]
        simp [Op.equalIn, run_underlying hu]
      cases op <;> simp only [nilOp, Option.some.injEq] at h <;> try (cases h; done)
      all_goals subst h
      · exact ⟨_, ⟨hg _, by show Sem.run E.P (do pure (Value.bool (← Op.equal t .nilIface .nilIface))) w = _; simp [he]⟩, .bool _⟩
      · exact ⟨_, ⟨hg _, by show Sem.run E.P (do pure (Value.bool (!(← Op.equal t .nilIface .nilIface)))) w = _; simp [he]⟩, .bool _⟩
  · cases h
theorem bin_ok (ok : TyOk E) (h : Rel E γ N H.bs.get w) (hF : FRel γ F a) {op : BinOp} {t : TypeId} {x y : Operand} {r : R} (hr : binX E F op t x y H = some r) :
    Does E γ N H w (asNext (do eqGuard op t x y (a.eval x) (a.eval y); Go.binOp op t (a.eval x) (a.eval y))) r := by
  unfold binX at hr
  cases hx : opA F x with
  | none => simp [hx] at hr
  | some u =>
    cases hy : opA F y with
    | none => simp [hx, hy] at hr
    | some u2 =>
      simp only [hx, hy] at hr
      split at hr
      · rename_i v hv
        simp only [Option.some.injEq] at hr
        subst hr
        obtain ⟨v', ⟨h1, h2⟩, h3⟩ := nilB_ok (w := w) ok (opA_ok hF hx) (opA_ok hF hy) hv
        exact does_val h (run_asNext (v := v') (by simp only [Sem.run_bind, h1, Result.andThen_ok, h2])) h3
      obtain ⟨v, hv, rfl⟩ := vR_some hr
      obtain ⟨v', ⟨h1, h2⟩, h3⟩ := binA_ok (w := w) (xo := x) (yo := y) ok h.symOk (opA_ok hF hx) (opA_ok hF hy) hv
      exact does_val h (run_asNext (v := v') (by simp only [Sem.run_bind, h1, Result.andThen_ok, h2])) h3

theorem un_ok (ok : TyOk E) (h : Rel E γ N H.bs.get w) (hF : FRel γ F a) {op : UnOp} {x : Operand} {r : R} (hr : unX E F op x H = some r) :
    Does E γ N H w (asNext (Op.unary op (a.eval x))) r := by
  unfold unX at hr
  cases hx : opA F x with
  | none => simp [hx] at hr
  | some u =>
    simp only [hx] at hr
    obtain ⟨v, hv, rfl⟩ := vR_some hr
    have hp := opA_ok hF hx
    generalize a.eval x = xv at hp
    suffices ∃ v', (Op.unary op xv).run E.P w = .ok v' w ∧ VR γ v v' by
      obtain ⟨v', h1, h2⟩ := this
      exact does_val h (run_asNext h1) h2
    unfold unA at hv
    split at hv
    · cases hp
      simp only [Option.some.injEq] at hv; subst hv
      rename_i k n
      exact ⟨.int k (k.wrap (0 - n)), by simp [Op.unary, Op.intArith], by rw [wrapF_eq]; exact .int _ _⟩
    · cases hp
      rename_i k i c d
      have := Lin.val_ok h.symOk hv
      rw [Lin.neg_ok] at this
      exact ⟨.int k (k.wrap (-(Lin.at γ ⟨i, c, d⟩))), by simp [Op.unary, Op.intArith, Lin.at], this⟩
    · cases hp
      simp only [Option.some.injEq] at hv; subst hv
      exact ⟨_, by simp [Op.unary], .bool _⟩
    · cases hp
      rename_i k n
      simp only [intOp, Option.some.injEq] at hv; subst hv
      exact ⟨.int k _, by simp only [Op.unary, Op.intBits]; rfl, .int _ _⟩
    · cases hv
end
end Go.Proofs.YteopodohghnokaaGreatDoor.Ex
end
section
namespace Go.Proofs.YteopodohghnokaaGreatDoor.Ex
open Go
set_option linter.unusedVariables false
set_option linter.unusedSimpArgs false
section
variable {E : Env} {γ : Cx} {N : Nat} {H : AH} {w : World} {F : Fr} {a : Act}

theorem natOf_ok {x : AV} {n : Nat} {v : Value} (h : natOf x = some n) (hv : VR γ x v) : ∃ k, v = .int k (n : Int) := by
  unfold natOf at h
  split at h
  · rename_i k m
    cases hv
    cases m with
    | ofNat m => simp only [Option.some.injEq] at h; subst h; exact ⟨k, rfl⟩
    | negSucc m => cases h
  · cases h

theorem sliceBound_run {P : Program} {k : IntKind} {n y : Nat} {c : BoundsCode} (h : n ≤ y) : (Instr.sliceBound (.int k (n : Int)) y c).run P w = .ok n w := by
  have : 0 ≤ (n : Int) ∧ (n : Int) ≤ (y : Int) := by omega
  simp [Instr.sliceBound, asIntOf, this]

def VRo (γ : Cx) : Option AV → Option Value → Prop
  | none, none => True
  | some x, some v => VR γ x v
  | _, _ => False
theorem optA_ok (hF : FRel γ F a) {x : Option Operand} {o : Option AV} (h : optA F x = some o) : VRo γ o (x.map a.eval) := by
  cases x with
  | none => simp [optA] at h; subst h; trivial
  | some x =>
    simp only [optA] at h
    cases hx : opA F x with
    | none => simp [hx] at h
    | some v => simp [hx] at h; subst h; exact opA_ok hF hx

/-- The bounds of a cut, as the machine finds them. -/
theorem bounds_ok {P : Program} {len cap : Nat} (hc : len ≤ cap) {s : Bool} {lo hi mx : Option AV} {lo' hi' mx' : Option Value} (h1 : VRo γ lo lo') (h2 : VRo γ hi hi') (h3 : VRo γ mx mx') {l h m : Nat} (hb : boundsA len lo hi mx = some (l, h, m)) :
    ∃ m', (Instr.sliceBounds s len cap lo' hi' mx').run P w = .ok (l, h, m') w ∧ h ≤ m' ∧ m' ≤ cap ∧ l ≤ h ∧ h ≤ len ∧ (mx.isSome = true → m' = m) ∧ (mx.isSome = false → m' = cap) := by
  unfold boundsA at hb
  cases hm : orNat len mx with
  | none => simp [hm] at hb
  | some m0 =>
    cases hh : orNat len hi with
    | none => simp [hm, hh] at hb
    | some h0 =>
      cases hl : orNat 0 lo with
      | none => simp [hm, hh, hl] at hb
      | some l0 =>
        simp only [hm, hh, hl] at hb
        split at hb
        · rename_i hcond
          simp only [Option.some.injEq, Prod.mk.injEq] at hb
          obtain ⟨rfl, rfl, rfl⟩ := hb
          obtain ⟨c1, c2, c3, c4⟩ := hcond
          cases mx with
          | none =>
            cases mx' with
            | some _ => exact h3.elim
            | none =>
              simp only [orNat, Option.some.injEq] at hm
              subst hm
              cases hi with
              | none =>
                cases hi' with
                | some _ => exact h2.elim
                | none =>
                  simp only [orNat, Option.some.injEq] at hh
                  subst hh
                  cases lo with
                  | none =>
                    cases lo' with
                    | some _ => exact h1.elim
                    | none =>
                      simp only [orNat, Option.some.injEq] at hl
                      subst hl
                      exact ⟨cap, by simp [Instr.sliceBounds], hc, Nat.le_refl _, c3, Nat.le_refl _, by simp, by simp⟩
                  | some x =>
                    cases lo' with
                    | none => exact h1.elim
                    | some v =>
                      obtain ⟨k, rfl⟩ := natOf_ok hl h1
                      exact ⟨cap, by simp [Instr.sliceBounds, sliceBound_run c3], hc, Nat.le_refl _, c3, Nat.le_refl _, by simp, by simp⟩
              | some y =>
                cases hi' with
                | none => exact h2.elim
                | some hv =>
                  obtain ⟨k, rfl⟩ := natOf_ok hh h2
                  have q : h0 ≤ cap := by omega
                  cases lo with
                  | none =>
                    cases lo' with
                    | some _ => exact h1.elim
                    | none =>
                      simp only [orNat, Option.some.injEq] at hl
                      subst hl
                      exact ⟨cap, by simp [Instr.sliceBounds, sliceBound_run q], q, Nat.le_refl _, c3, c2, by simp, by simp⟩
                  | some x =>
                    cases lo' with
                    | none => exact h1.elim
                    | some v =>
                      obtain ⟨k, rfl⟩ := natOf_ok hl h1
                      exact ⟨cap, by simp [Instr.sliceBounds, sliceBound_run q, sliceBound_run c3], q, Nat.le_refl _, c3, c2, by simp, by simp⟩
          | some mv =>
            cases mx' with
            | none => exact h3.elim
            | some mv' =>
              obtain ⟨km, rfl⟩ := natOf_ok hm h3
              have qm : m0 ≤ cap := by omega
              cases hi with
              | none => simp at c4
              | some y =>
                cases hi' with
                | none => exact h2.elim
                | some hv =>
                  obtain ⟨k, rfl⟩ := natOf_ok hh h2
                  cases lo with
                  | none =>
                    cases lo' with
                    | some _ => exact h1.elim
                    | none =>
                      simp only [orNat, Option.some.injEq] at hl
                      subst hl
                      exact ⟨m0, by simp [Instr.sliceBounds, sliceBound_run qm, sliceBound_run c2], c2, qm, c3, by omega, by simp, by simp⟩
                  | some x =>
                    cases lo' with
                    | none => exact h1.elim
                    | some v =>
                      obtain ⟨k, rfl⟩ := natOf_ok hl h1
                      exact ⟨m0, by simp [Instr.sliceBounds, sliceBound_run qm, sliceBound_run c2, sliceBound_run c3], c2, qm, c3, by omega, by simp, by simp⟩
        · cases hb

theorem extract_ofList (s : List UInt8) (l h : Nat) : (⟨s.toArray⟩ : ByteArray).extract l h = ⟨((s.take h).drop l).toArray⟩ := by
  apply ByteArray.ext
  rw [ByteArray.data_extract]
  apply Array.ext'
  simp [Array.toList_extract, List.extract, List.drop_take]

theorem slice_ok (ok : TyOk E) (h : Rel E γ N H.bs.get w) (hF : FRel γ F a) {t : TypeId} {x : Operand} {lo hi mx : Option Operand} {r : R} (hr : sliceX E F t x lo hi mx H = some r) :
    Does E γ N H w (asNext (Instr.sliceAt t (a.eval x) (lo.map a.eval) (hi.map a.eval) (mx.map a.eval))) r := by
  unfold sliceX at hr
  cases hx : opA F x with
  | none => simp [hx] at hr
  | some u =>
    simp only [hx] at hr
    split at hr
    · rename_i l hh m hl hhi hmx
      obtain ⟨v, hv, rfl⟩ := vR_some hr
      have hp := opA_ok hF hx
      have o1 := optA_ok hF hl
      have o2 := optA_ok hF hhi
      have o3 := optA_ok hF hmx
      generalize a.eval x = xv at hp
      generalize lo.map a.eval = lo' at o1
      generalize hi.map a.eval = hi' at o2
      generalize mx.map a.eval = mx' at o3
      suffices ∃ v', (Instr.sliceAt t xv lo' hi' mx').run E.P w = .ok v' w ∧ VR γ v v' by
        obtain ⟨v', e1, e2⟩ := this
        exact does_val h (run_asNext e1) e2
      unfold sliceA at hv
      cases ht : E.ty.get t with
      | none => simp [ht] at hv
      | some i =>
        obtain ⟨info, d, h1, h2, rfl⟩ := tiOf_ok (ok.ty ht)
        simp only [ht] at hv
        split at hv
        · rename_i s hk
          obtain rfl := kind_str hk
          cases hp
          cases m with
          | some _ => simp at hv
          | none =>
            cases mx' with
            | some _ => exact o3.elim
            | none =>
              simp only at hv
              cases hb : boundsA s.length l hh none with
              | none => simp [hb] at hv
              | some q =>
                obtain ⟨l0, h0, m0⟩ := q
                simp only [hb, Option.some.injEq] at hv
                subst hv
                obtain ⟨m', b1, b2⟩ := bounds_ok (P := E.P) (w := w) (s := false) (Nat.le_refl _) o1 o2 o3 hb
                exact ⟨.string ⟨((s.take h0).drop l0).toArray⟩, by simp [Instr.sliceAt, Instr.slice, run_underlying h2, size_ofList, b1, extract_ofList], .str _⟩
        · rename_i e hk
          obtain rfl := kind_slice hk
          cases hp
          cases he : E.ty.get e with
          | none => simp [he] at hv
          | some ie =>
            obtain ⟨einfo, ed, g1, g2, rfl⟩ := tiOf_ok (ok.ty he)
            cases hb : boundsA 0 l hh m with
            | none => simp [he, hb] at hv
            | some q =>
              obtain ⟨l0, h0, m0⟩ := q
              simp only [he, hb, Option.some.injEq] at hv
              subst hv
              obtain ⟨m', b1, b2, b3, b4, b5, _⟩ := bounds_ok (P := E.P) (w := w) (s := true) (Nat.le_refl _) o1 o2 o3 hb
              obtain rfl : m' = 0 := by omega
              obtain rfl : h0 = 0 := by omega
              obtain rfl : l0 = 0 := by omega
              exact ⟨.slice none 0 0, by simp [Instr.sliceAt, Instr.slice, run_underlying h2, b1, sizeOf, typeInfo, g1], .nilslice⟩
        · rename_i e b o len es full hk
          obtain rfl := kind_slice hk
          cases he : E.ty.get e with
          | none => simp [he] at hv
          | some ie =>
            obtain ⟨einfo, ed, g1, g2, rfl⟩ := tiOf_ok (ok.ty he)
            simp only [he] at hv
            split at hv
            · rename_i hes
              subst hes
              cases hb : boundsA len l hh m with
              | none => simp [hb] at hv
              | some q =>
                obtain ⟨l0, h0, m0⟩ := q
                simp only [hb, Option.some.injEq] at hv
                subst hv
                cases hp with
                | slice hloc hlen hfull haddr hfit =>
                  rename_i β ω σ cap A
                  obtain ⟨m', b1, b2, b3, b4, b5, b6, b7⟩ := bounds_ok (P := E.P) (w := w) (s := true) hlen o1 o2 o3 hb
                  refine ⟨.slice (some (if m' = l0 then A else A.add (l0 * einfo.size))) (h0 - l0) (m' - l0), ?_, ?_⟩
                  · by_cases hml : m' = l0
                    · simp [Instr.sliceAt, Instr.slice, run_underlying h2, b1, sizeOf, typeInfo, g1, hml]
                    · simp [Instr.sliceAt, Instr.slice, run_underlying h2, b1, sizeOf, typeInfo, g1, hml]
                  · refine .slice hloc (by omega) ?_ ?_ ?_
                    · intro hf
                      cases hms : m.isSome
                      · simp only [hms, Bool.false_eq_true, if_false, Bool.and_eq_true, beq_iff_eq] at hf
                        have := hfull hf.1
                        have := b7 hms
                        omega
                      · simp only [hms, if_true, beq_iff_eq] at hf
                        have := b6 hms
                        omega
                    · intro hne
                      have hml : m' ≠ l0 := by omega
                      rw [if_neg hml, haddr (by omega), Addr.add_lit]
                      simp [Nat.add_assoc]
                    · have : l0 * einfo.size + (m' - l0) * einfo.size = m' * einfo.size := by rw [← Nat.add_mul]; congr 1; omega
                      have := Nat.mul_le_mul_right einfo.size b3
                      omega
            · cases hv
        · cases hv
    · cases hr
end
end Go.Proofs.YteopodohghnokaaGreatDoor.Ex
end
section
namespace Go.Proofs.YteopodohghnokaaGreatDoor.Ex
open Go
set_option linter.unusedVariables false
set_option linter.unusedSimpArgs false
section
variable {E : Env} {γ : Cx} {N : Nat} {H : AH} {w : World} {F : Fr} {a : Act}

theorem fieldOf_ok (ok : TyOk E) {t : TypeId} {f q : Nat} {i : TI} (h : fieldOf E t f = some (q, i)) :
    ∃ fs fl info d, E.P.underlying t = some (.struct fs) ∧ fs[f]? = some fl ∧ fl.offset = q ∧ E.P.info? fl.type = some info ∧ E.P.underlying fl.type = some d ∧ info.size ≠ 0 ∧
      i = ⟨kindOf d, info.size, info.bytes, zeroOf E.P d info, plainEq E.P fl.type d⟩ := by
  unfold fieldOf at h
  cases ht : E.ty.get t with
  | none => simp [ht] at h
  | some j =>
    obtain ⟨info, d, h1, h2, rfl⟩ := tiOf_ok (ok.ty ht)
    simp only [ht] at h
    split at h
    · rename_i fs hk
      obtain ⟨fa, rfl, rfl⟩ := kind_struct hk
      split at h
      · rename_i o ft hf
        simp only [List.getElem?_map, Option.map_eq_some_iff, Prod.mk.injEq] at hf
        obtain ⟨fl, hfl, rfl, rfl⟩ := hf
        cases hg : E.ty.get fl.type with
        | none => simp [hg] at h
        | some j =>
          obtain ⟨finfo, fd, g1, g2, rfl⟩ := tiOf_ok (ok.ty hg)
          simp only [hg] at h
          split at h
          · cases h
          · rename_i hz
            simp only [Option.some.injEq, Prod.mk.injEq] at h
            exact ⟨fa, fl, finfo, fd, h2, by simpa using hfl, h.1, g1, g2, hz, h.2.symm⟩
      · cases h
    · cases h

theorem fieldAddr_ok (ok : TyOk E) (h : Rel E γ N H.bs.get w) (hF : FRel γ F a) {t : TypeId} {x : Operand} {f : Nat} {r : R} (hr : fieldAddrX E F t x f H = some r) :
    Does E γ N H w (asNext (Instr.fieldAt t (a.eval x) f)) r := by
  unfold fieldAddrX at hr
  cases hx : opA F x with
  | none => simp [hx] at hr
  | some u =>
    cases u <;> simp only [hx] at hr <;> try (cases hr; done)
    rename_i b off
    cases hf : fieldOf E t f with
    | none => simp [hf] at hr
    | some q =>
      obtain ⟨q, i⟩ := q
      simp only [hf, Option.some.injEq] at hr
      subst hr
      obtain ⟨fs, fl, info, d, e1, e2, e3, e4, e5, e6, _⟩ := fieldOf_ok ok hf
      have hp := opA_ok hF hx
      generalize a.eval x = xv at hp
      cases hp with
      | ptr hloc =>
        rename_i β ω σ
        subst e3
        refine does_val h (run_asNext (v := .pointer (some ⟨β, ω + (off + fl.offset), none⟩)) ?_) (.ptr hloc)
        simp [Instr.fieldAt, run_underlying e1, e2, Instr.sureAddr, fieldPlace, sizeOf, typeInfo, e4, e6, Addr.add_lit, Nat.add_assoc]

theorem field_ok (ok : TyOk E) (h : Rel E γ N H.bs.get w) (hF : FRel γ F a) {t : TypeId} {x : Operand} {f : Nat} {r : R} (hr : fieldX E F t x f H = some r) :
    Does E γ N H w (asNext (Instr.field t (a.eval x) f)) r := by
  unfold fieldX at hr
  cases hx : opA F x with
  | none => simp [hx] at hr
  | some u =>
    cases u <;> simp only [hx] at hr <;> try (cases hr; done)
    rename_i cs
    cases hf : fieldOf E t f with
    | none => simp [hf] at hr
    | some q =>
      obtain ⟨q, i⟩ := q
      simp only [hf] at hr
      obtain ⟨v, hv, rfl⟩ := vR_some hr
      obtain ⟨fs, fl, info, d, e1, e2, e3, e4, e5, e6, rfl⟩ := fieldOf_ok ok hf
      have hp := opA_ok hF hx
      generalize a.eval x = xv at hp
      cases hp with
      | agg hl =>
        subst e3
        obtain ⟨v', p1, p2⟩ := partA_ok (P := E.P) (w := w) e4 e5 hl hv
        exact does_val h (run_asNext (by simp [Instr.field, run_underlying e1, e2, asAgg, p1])) p2

theorem indexAddr_ok (ok : TyOk E) (h : Rel E γ N H.bs.get w) (hF : FRel γ F a) {t : TypeId} {x y : Operand} {r : R} (hr : indexAddrX E F t x y H = some r) :
    Does E γ N H w (asNext (Instr.indexAt t (a.eval x) (a.eval y))) r := by
  unfold indexAddrX at hr
  split at hr
  · rename_i i v j ht hx hy
    obtain ⟨info, d, h1, h2, rfl⟩ := tiOf_ok (ok.ty ht)
    have hp := opA_ok hF hx
    have hq := opA_ok hF hy
    generalize a.eval x = xv at hp
    generalize a.eval y = yv at hq
    split at hr
    · rename_i n e b off len es full hn hk
      obtain rfl := kind_slice hk
      cases he : E.ty.get e with
      | none => simp [he] at hr
      | some ie =>
        obtain ⟨einfo, ed, g1, g2, rfl⟩ := tiOf_ok (ok.ty he)
        simp only [he] at hr
        split at hr
        · rename_i hc
          obtain ⟨c1, rfl⟩ := hc
          simp only [Option.some.injEq] at hr
          subst hr
          obtain ⟨k, rfl⟩ := natOf_ok hn hq
          cases hp with
          | slice hloc hlen hfull haddr hfit =>
            rename_i β ω σ cap A
            obtain rfl := haddr (by omega)
            refine does_val h (run_asNext (v := .pointer (some ⟨β, ω + (off + n * einfo.size), none⟩)) ?_) (.ptr hloc)
            have : 0 ≤ (n : Int) ∧ (n : Int) < (len : Int) := by omega
            simp [Instr.indexAt, asIntOf, run_underlying h2, c1, Nat.not_le.2 c1, sizeOf, typeInfo, g1, Addr.add_lit, Nat.add_assoc]
        · cases hr
    · rename_i n len e b off hn hk
      obtain rfl := kind_array hk
      cases he : E.ty.get e with
      | none => simp [he] at hr
      | some ie =>
        obtain ⟨einfo, ed, g1, g2, rfl⟩ := tiOf_ok (ok.ty he)
        simp only [he] at hr
        split at hr
        · rename_i c1
          simp only [Option.some.injEq] at hr
          subst hr
          obtain ⟨k, rfl⟩ := natOf_ok hn hq
          cases hp with
          | ptr hloc =>
            rename_i β ω σ
            refine does_val h (run_asNext (v := .pointer (some ⟨β, ω + (off + n * einfo.size), none⟩)) ?_) (.ptr hloc)
            have : 0 ≤ (n : Int) ∧ (n : Int) < (len : Int) := by omega
            simp [Instr.indexAt, asIntOf, run_underlying h2, c1, Nat.not_le.2 c1, Instr.sureAddr, sizeOf, typeInfo, g1, Addr.add_lit, Nat.add_assoc]
        · cases hr
    · cases hr
  · cases hr

theorem getElem_ofList (s : List UInt8) (n : Nat) : (⟨s.toArray⟩ : ByteArray)[n]? = s[n]? := by
  by_cases h : n < s.length
  · rw [List.getElem?_eq_getElem h]
    rw [getElem?_pos (⟨s.toArray⟩ : ByteArray) n h]
    rfl
  · rw [List.getElem?_eq_none (by omega)]
    rw [getElem?_neg (⟨s.toArray⟩ : ByteArray) n h]

theorem index_ok (ok : TyOk E) (h : Rel E γ N H.bs.get w) (hF : FRel γ F a) {t : TypeId} {x y : Operand} {r : R} (hr : indexX E F t x y H = some r) :
    Does E γ N H w (asNext (Instr.index t (a.eval x) (a.eval y))) r := by
  unfold indexX at hr
  split at hr
  · rename_i i v j ht hx hy
    obtain ⟨info, d, h1, h2, rfl⟩ := tiOf_ok (ok.ty ht)
    have hp := opA_ok hF hx
    have hq := opA_ok hF hy
    generalize a.eval x = xv at hp
    generalize a.eval y = yv at hq
    split at hr
    · rename_i n s hn hk
      obtain rfl := kind_str hk
      cases hs : s[n]? with
      | none => simp [hs] at hr
      | some c =>
        simp only [hs, Option.some.injEq] at hr
        subst hr
        obtain ⟨k, rfl⟩ := natOf_ok hn hq
        cases hp
        refine does_val h (run_asNext (v := .int .u8 c.toNat) ?_) (.int _ _)
        have hz : (0 : Int) ≤ (n : Int) := by omega
        simp [Instr.index, asIntOf, run_underlying h2, hz, getElem_ofList, hs]
    · rename_i n len e cs hn hk
      obtain rfl := kind_array hk
      cases he : E.ty.get e with
      | none => simp [he] at hr
      | some ie =>
        obtain ⟨einfo, ed, g1, g2, rfl⟩ := tiOf_ok (ok.ty he)
        simp only [he] at hr
        split at hr
        · rename_i c1
          obtain ⟨v, hv, rfl⟩ := vR_some hr
          obtain ⟨k, rfl⟩ := natOf_ok hn hq
          cases hp with
          | agg hl =>
            obtain ⟨v', p1, p2⟩ := partA_ok (P := E.P) (w := w) g1 g2 hl hv
            have : 0 ≤ (n : Int) ∧ (n : Int) < (len : Int) := by omega
            exact does_val h (run_asNext (by simp [Instr.index, asIntOf, run_underlying h2, c1, Nat.not_le.2 c1, sizeOf, typeInfo, g1, p1])) p2
        · cases hr
    · cases hr
  · cases hr

/-! ### What is built -/
theorem partsA_ok (hF : FRel γ F a) : ∀ {l : List (Nat × Operand)} {ps : List (Nat × AV)}, partsA F l = some ps → ps.length = l.length ∧ ∀ (i : Nat) p, ps[i]? = some p → ∃ x, l[i]? = some (p.1, x) ∧ VR γ p.2 (a.eval x)
  | [], ps, h => by simp [partsA] at h; subst h; simp
  | (j, x) :: l, ps, h => by
    simp only [partsA] at h
    cases hx : opA F x with
    | none => simp [hx] at h
    | some v =>
      cases hr : partsA F l with
      | none => simp [hx, hr] at h
      | some r =>
        simp only [hx, hr, Option.some.injEq] at h
        subst h
        obtain ⟨e1, e2⟩ := partsA_ok hF hr
        refine ⟨by simp [e1], fun i p hp => ?_⟩
        cases i with
        | zero => simp at hp; subst hp; exact ⟨x, rfl, opA_ok hF hx⟩
        | succ i => simpa using e2 i p (by simpa using hp)

/-- Parts laid over cells, one behind the other. -/
theorem setAll_eq : ∀ (v : List Value) (cs : Array Value) (off k : Nat), off + k + v.length ≤ cs.size →
    ((v.zipIdx k).foldl (fun (c : Array Value) (x : Value × Nat) => c.setIfInBounds (off + x.2) x.1) cs).toList = cs.toList.take (off + k) ++ v ++ cs.toList.drop (off + k + v.length)
  | [], cs, off, k, h => by simp
  | u :: v, cs, off, k, h => by
    simp only [List.zipIdx_cons, List.foldl_cons]
    simp only [List.length_cons] at h
    rw [setAll_eq v _ off (k + 1) (by simp; omega)]
    simp only [Array.toList_setIfInBounds, List.length_cons]
    have hlt : off + k < cs.toList.length := by simp; omega
    rw [List.take_set, List.drop_set_of_lt (by omega)]
    have : off + (k + 1) = off + k + 1 := by omega
    rw [this, List.take_succ_eq_append_getElem hlt]
    rw [List.set_append_right _ _ (by simp; omega)]
    simp [Nat.min_eq_left (Nat.le_of_lt hlt), List.append_assoc]
    rw [Nat.min_eq_left (by simpa using Nat.le_of_lt hlt)]
    simp
    congr 1
    omega

theorem fill_ok {place : Nat → Option (Nat × Nat)} : ∀ {l : List (Nat × List AV)} {ps : List (Nat × Value)} {z cs : List AV} {z' : Array Value}, fillA z l = some cs → VRs γ z z'.toList → l.length = ps.length →
    (∀ (i : Nat) p q, l[i]? = some p → ps[i]? = some q → place q.1 = some (p.1, p.2.length) ∧ VRs γ p.2 q.2.cells.toList) → ∃ cs', Instr.fill place z' ps = some cs' ∧ VRs γ cs cs'.toList
  | [], [], z, cs, z', h, hz, _, _ => by simp [fillA] at h; subst h; exact ⟨z', rfl, hz⟩
  | (o, v) :: l, (j, u) :: ps, z, cs, z', h, hz, hlen, hp => by
    obtain ⟨p1, p2⟩ := hp 0 _ _ rfl rfl
    simp only at p1 p2
    simp only [fillA] at h
    split at h
    · rename_i hfit
      have l1 := hz.length
      have l2 := p2.length
      have e1 : u.cells.size = v.length := by simp [l2]
      have e2 : z'.size = z.length := by simp [l1]
      have hstep := setAll_eq u.cells.toList z' o 0 (by simp; omega)
      simp only [Nat.add_zero] at hstep
      have hz2 : VRs γ (z.take o ++ v ++ z.drop (o + v.length)) ((u.cells.toList.zipIdx 0).foldl (fun (c : Array Value) (x : Value × Nat) => c.setIfInBounds (o + x.2) x.1) z').toList := by
        rw [hstep]
        have : u.cells.toList.length = v.length := l2.symm
        rw [this]
        exact ((hz.take o).append p2).append (hz.drop _)
      obtain ⟨cs', c1, c2⟩ := fill_ok h hz2 (by simpa using hlen) (fun i p q hp' hq' => hp (i + 1) p q (by simpa using hp') (by simpa using hq'))
      refine ⟨cs', ?_, c2⟩
      have : ¬ (u.cells.size ≠ v.length ∨ o + u.cells.size > z'.size) := by omega
      simp only [Instr.fill, p1, e1, ne_eq, not_true_eq_false, decide_false, Bool.false_or, decide_eq_true_eq]
      rw [if_neg (by omega)]
      rw [← c1]
      congr 1
      rw [← Array.foldl_toList, Array.toList_zipIdx]
    · cases h
end
end Go.Proofs.YteopodohghnokaaGreatDoor.Ex
end
section
namespace Go.Proofs.YteopodohghnokaaGreatDoor.Ex
open Go
set_option linter.unusedVariables false
set_option linter.unusedSimpArgs false
section
variable {E : Env} {γ : Cx} {N : Nat} {H : AH} {w : World} {F : Fr} {a : Act}

theorem placeA_ok (ok : TyOk E) {fs : List (Nat × TypeId)} : ∀ {ps : List (Nat × AV)} {l : List (Nat × List AV)}, placeA E fs ps = some l → l.length = ps.length ∧
    ∀ (i : Nat) p, l[i]? = some p → ∃ q ft, ps[i]? = some q ∧ fs[q.1]? = some (p.1, ft) ∧ p.2 = q.2.cells ∧ ∃ info, E.P.info? ft = some info ∧ p.2.length = info.size
  | [], l, h => by simp [placeA] at h; subst h; simp
  | (j, v) :: ps, l, h => by
    simp only [placeA] at h
    split at h
    · rename_i o ft hf
      cases hg : E.ty.get ft with
      | none => simp [hg] at h
      | some i =>
        obtain ⟨info, d, h1, h2, rfl⟩ := tiOf_ok (ok.ty hg)
        simp only [hg] at h
        split at h
        · rename_i hsz
          cases hr : placeA E fs ps with
          | none => simp [hr] at h
          | some r =>
            simp only [hr, Option.some.injEq] at h
            subst h
            obtain ⟨e1, e2⟩ := placeA_ok ok hr
            refine ⟨by simp [e1], fun i p hp => ?_⟩
            cases i with
            | zero => simp at hp; subst hp; exact ⟨(j, v), ft, rfl, hf, rfl, info, h1, hsz⟩
            | succ i => simpa using e2 i p (by simpa using hp)
        · cases h
    · cases h
theorem placeS_ok {size : Nat} : ∀ {ps : List (Nat × AV)} {l : List (Nat × List AV)}, placeS size ps = some l → l.length = ps.length ∧
    ∀ (i : Nat) p, l[i]? = some p → ∃ q, ps[i]? = some q ∧ p.1 = q.1 * size ∧ p.2 = q.2.cells ∧ p.2.length = size
  | [], l, h => by simp [placeS] at h; subst h; simp
  | (j, v) :: ps, l, h => by
    simp only [placeS] at h
    split at h
    · rename_i hsz
      cases hr : placeS size ps with
      | none => simp [hr] at h
      | some r =>
        simp only [hr, Option.some.injEq] at h
        subst h
        obtain ⟨e1, e2⟩ := placeS_ok hr
        refine ⟨by simp [e1], fun i p hp => ?_⟩
        cases i with
        | zero => simp at hp; subst hp; exact ⟨(j, v), rfl, rfl, rfl, hsz⟩
        | succ i => simpa using e2 i p (by simpa using hp)
    · cases h

theorem cells_of {x : AV} {v : Value} (h : VR γ x v) : VRs γ x.cells v.cells.toList := by
  cases h <;> first | (exact .cons (by constructor <;> assumption) .nil) | assumption | (exact .cons (by constructor) .nil) | skip
  case opq i e =>
    have : (γ.opq i).cells = #[γ.opq i] := by
      generalize γ.opq i = u at e
      cases u <;> first | rfl | (simp [Value.oneCell'] at e)
    rw [this]
    exact .cons (.opq i e) .nil

theorem mapM_places {P : Program} : ∀ (fs : List Field), (fs.all fun f => (P.info? f.type).isSome) = true →
    ∃ places, fs.mapM (fun f => (P.info? f.type).map fun i => (f.offset, i.size)) = some places ∧ ∀ (j : Nat) f info, fs[j]? = some f → P.info? f.type = some info → places[j]? = some (f.offset, info.size)
  | [], _ => ⟨[], by simp, by simp⟩
  | f :: fs, h => by
    simp only [List.all_cons, Bool.and_eq_true] at h
    obtain ⟨info, hi⟩ := Option.isSome_iff_exists.1 h.1
    obtain ⟨pl, h1, h2⟩ := mapM_places fs h.2
    refine ⟨(f.offset, info.size) :: pl, by simp [hi, h1], fun j g ginfo hj hg => ?_⟩
    cases j with
    | zero => simp at hj; subst hj; rw [hi] at hg; simp only [Option.some.injEq] at hg; subst hg; rfl
    | succ j => simpa using h2 j g ginfo (by simpa using hj) hg

theorem build_ok (ok : TyOk E) (h : Rel E γ N H.bs.get w) (hF : FRel γ F a) {t : TypeId} {parts : Array (Nat × Operand)} {r : R} (hr : buildX E F t parts.toList H = some r) :
    Does E γ N H w (asNext (Instr.build t (parts.map fun (i, x) => (i, a.eval x)))) r := by
  unfold buildX at hr
  cases ht : E.ty.get t with
  | none => simp [ht] at hr
  | some i =>
    obtain ⟨info, d, h1, h2, rfl⟩ := tiOf_ok (ok.ty ht)
    simp only [ht] at hr
    cases hz : zeroOf E.P d info with
    | none => simp [hz] at hr
    | some z =>
      obtain ⟨hfl, zv, hz1, hz2⟩ := zeroOf_ok hz
      cases hps : partsA F parts.toList with
      | none => simp [hz, hps] at hr
      | some ps =>
        obtain ⟨pl, pg⟩ := partsA_ok hF hps
        simp only [hz, hps] at hr
        have hpt : (parts.map fun (i, x) => (i, a.eval x)).toList = parts.toList.map fun (i, x) => (i, a.eval x) := by simp
        have fin : ∀ {l : List (Nat × List AV)} {place : Nat → Option (Nat × Nat)}, fillR H z (some l) = some r → l.length = ps.length →
            (∀ (i : Nat) p q, l[i]? = some p → ps[i]? = some q → place q.1 = some (p.1, p.2.length) ∧ p.2 = q.2.cells) →
            ∃ cs cs', r = .val (.agg cs) H ∧ Instr.fill place zv.cells (parts.map fun (i, x) => (i, a.eval x)).toList = some cs' ∧ VRs γ cs cs'.toList := fun {l place} hfr hlen hpl => by
          unfold fillR at hfr
          simp only at hfr
          cases hfa : fillA z l with
          | none => simp [hfa] at hfr
          | some cs =>
            simp only [hfa, Option.some.injEq] at hfr
            rw [hpt]
            obtain ⟨cs', c1, c2⟩ := fill_ok (place := place) (ps := parts.toList.map fun (i, x) => (i, a.eval x)) hfa (absCells_ok hz2) (by simp [hlen, pl]) (fun i p q hp hq => by
              simp only [List.getElem?_map, Option.map_eq_some_iff] at hq
              obtain ⟨⟨j, x⟩, hx, rfl⟩ := hq
              obtain ⟨q', hq'⟩ : ∃ q', ps[i]? = some q' := by
                have := (List.getElem?_eq_some_iff.1 hx).1
                exact ⟨ps[i]'(by omega), by simp⟩
              obtain ⟨x', g1, g2⟩ := pg i q' hq'
              rw [hx] at g1
              simp only [Option.some.injEq, Prod.mk.injEq] at g1
              obtain ⟨rfl, rfl⟩ := g1
              obtain ⟨k1, k2⟩ := hpl i p q' hp hq'
              refine ⟨k1, ?_⟩
              rw [k2]
              exact cells_of g2)
            exact ⟨cs, cs', hfr.symm, c1, c2⟩
        split at hr
        · rename_i fs hk
          obtain ⟨f, rfl, rfl⟩ := kind_struct hk
          split at hr
          · obtain ⟨places, m1, m2⟩ := mapM_places f.toList (by simpa [fldsOk] using hfl)
            cases hpa : placeA E (f.toList.map fun x => (x.offset, x.type)) ps with
            | none => rw [hpa] at hr; simp [fillR] at hr
            | some l =>
              rw [hpa] at hr
              obtain ⟨e1, e2⟩ := placeA_ok ok hpa
              obtain ⟨cs, cs', rfl, c1, c2⟩ := fin (place := (places.toArray[·]?)) hr e1 (fun i p q hp hq => by
                obtain ⟨q', ft, k1, k2, k3, info', k4, k5⟩ := e2 i p hp
                rw [hq] at k1
                simp only [Option.some.injEq] at k1
                subst k1
                simp only [List.getElem?_map, Option.map_eq_some_iff, Prod.mk.injEq] at k2
                obtain ⟨fl, j1, j2, rfl⟩ := k2
                refine ⟨?_, k3⟩
                have := m2 q.1 fl info' j1 k4
                simp only [List.getElem?_toArray]
                rw [this, j2, k5])
              exact does_val h (run_asNext (run_build w t _ cs' (by simp only [Program.built, h1, h2, hz1, m1]; exact c1))) (.agg c2)
          · cases hr
        · rename_i n e hk
          obtain rfl := kind_array hk
          cases he : E.ty.get e with
          | none => simp [he] at hr
          | some ie =>
            obtain ⟨einfo, ed, g1, g2, rfl⟩ := tiOf_ok (ok.ty he)
            simp only [he] at hr
            cases hpa : placeS einfo.size ps with
            | none => rw [hpa] at hr; simp [fillR] at hr
            | some l =>
              rw [hpa] at hr
              obtain ⟨e1, e2⟩ := placeS_ok hpa
              obtain ⟨cs, cs', rfl, c1, c2⟩ := fin (place := fun i => some (i * einfo.size, einfo.size)) hr e1 (fun i p q hp hq => by
                obtain ⟨q', k1, k2, k3, k4⟩ := e2 i p hp
                rw [hq] at k1
                simp only [Option.some.injEq] at k1
                subst k1
                exact ⟨by rw [k2, k4], k3⟩)
              exact does_val h (run_asNext (run_build w t _ cs' (by simp only [Program.built, h1, h2, hz1, g1]; exact c1))) (.agg c2)
        · cases hr

theorem replA_len (z : List AV) : ∀ n : Nat, (replA z n).length = n * z.length
  | 0 => by simp [replA]
  | n + 1 => by simp [replA, replA_len z n, Nat.add_mul]; omega
theorem replA_get (z : List AV) : ∀ (n i : Nat), i < n * z.length → (replA z n)[i]? = z[i % z.length]?
  | 0, i, h => by omega
  | n + 1, i, h => by
    simp only [replA]
    by_cases hi : i < z.length
    · rw [List.getElem?_append_left hi, Nat.mod_eq_of_lt hi]
    · rw [List.getElem?_append_right (by omega), replA_get z n (i - z.length) (by rw [Nat.add_mul] at h; omega)]
      congr 1
      rw [Nat.mod_eq_sub_mod (a := i) (by omega)]
theorem repl_ok {z : List AV} {zv : Array Value} (hz : VRs γ z zv.toList) (n : Nat) : VRs γ (replA z n) (madeCells zv (n * zv.size)).toList := by
  have hl := hz.length
  simp only [Array.length_toList] at hl
  refine VRs.of_get (by simp [replA_len, madeCells, hl]) (fun i x y hx hy => ?_)
  have hi : i < n * z.length := by
    have := (List.getElem?_eq_some_iff.1 hx).1
    rwa [replA_len] at this
  have hpos : 0 < z.length := by
    rcases Nat.eq_zero_or_pos z.length with h0 | h0
    · rw [h0] at hi; omega
    · exact h0
  rw [replA_get z n i hi] at hx
  obtain ⟨v, h1, h2⟩ := hz.get _ hx
  have h1' : zv[i % zv.size]? = some v := by rw [← hl]; simpa using h1
  have : y = v := by
    simp only [madeCells, Array.toList_map, List.getElem?_map, Option.map_eq_some_iff] at hy
    obtain ⟨j, j1, j2⟩ := hy
    have : j = i := by
      rw [Array.toList_range, List.getElem?_range (by rw [← hl]; exact hi)] at j1
      simpa using j1.symm
    subst this
    rw [← j2]
    rw [getElem!_pos zv _ (by rw [← hl]; exact Nat.mod_lt _ hpos)]
    have := h1'
    rw [Array.getElem?_eq_getElem (by rw [← hl]; exact Nat.mod_lt _ hpos)] at this
    simpa using this
  subst this
  exact h2

theorem does_row (h : Rel E γ N H.bs.get w) (hN : N ≤ w.heap.size) {H' : AH} {l : List AV} (hn : H.new l = some H') (hf : ∀ id, H.n ≤ id → id < H'.n → γ.loc id = none) {T : TypeId} {cs : Array Value} {n es : Nat}
    {s : Sem Value} (hs : s.run E.P w = .ok (.slice (some ⟨w.heap.size, 0, none⟩) n n) (w.alloc (.cells cs T))) (hv : VRs γ l cs.toList) (hsz : cs.size = n * es) :
    Does E γ N H w (asNext s) (.val (.slice H.n 0 n es true) H') := by
  refine does_new h hN hn hf (vs := cs.toList) (cs := cs) (T := T) (fz := (0, 0)) (run_asNext hs) rfl (fun i hi => by simp) hv (by simp) (fun i hi => by simp) ?_
  exact .slice (Cx.bind_same _ _ _) (Nat.le_refl _) (fun _ => rfl) (fun _ => by simp) (by simp [hsz])

theorem buildSlice_ok (ok : TyOk E) (h : Rel E γ N H.bs.get w) (hN : N ≤ w.heap.size) (hF : FRel γ F a) {t : TypeId} {len : Nat} {parts : Array (Nat × Operand)} {r : R} (hr : buildSliceX E F t len parts.toList H = some r)
    (hf : ∀ id, H.n ≤ id → id < r.n → γ.loc id = none) {parts' : Array (Nat × Value)} (hpt : parts'.toList = parts.toList.map fun (i, x) => (i, a.eval x)) : Does E γ N H w (asNext (Instr.buildSlice t len parts')) r := by
  unfold buildSliceX at hr
  cases ht : E.ty.get t with
  | none => simp [ht] at hr
  | some i =>
    obtain ⟨info, d, h1, h2, rfl⟩ := tiOf_ok (ok.ty ht)
    simp only [ht] at hr
    split at hr
    · rename_i e hk
      obtain rfl := kind_slice hk
      cases he : E.ty.get e with
      | none => simp [he] at hr
      | some ie =>
        obtain ⟨einfo, ed, g1, g2, rfl⟩ := tiOf_ok (ok.ty he)
        simp only [he] at hr
        cases hz : zeroOf E.P ed einfo with
        | none => simp [hz] at hr
        | some z =>
          obtain ⟨hfl, zv, hz1, hz2⟩ := zeroOf_ok hz
          cases hps : partsA F parts.toList with
          | none => simp [hz, hps] at hr
          | some ps =>
            obtain ⟨pl, pg⟩ := partsA_ok hF hps
            simp only [hz, hps] at hr
            split at hr
            · rename_i hc
              obtain ⟨hzl, hbig⟩ := hc
              cases hpa : placeS einfo.size ps with
              | none => simp [hpa] at hr
              | some l =>
                simp only [hpa] at hr
                cases hfa : fillA (replA z len) l with
                | none => simp [hfa] at hr
                | some cs =>
                  simp only [hfa] at hr
                  obtain ⟨H', hn, rfl⟩ := newR_some hr
                  obtain ⟨e1, e2⟩ := placeS_ok hpa
                  have hzc := absCells_ok (γ := γ) hz2
                  have hzs : zv.cells.size = einfo.size := by have := hzc.length; simp only [Array.length_toList] at this; omega
                  have hrep := repl_ok hzc len
                  rw [hzs] at hrep
                  obtain ⟨cs', c1, c2⟩ := fill_ok (place := fun i => some (i * einfo.size, einfo.size)) (ps := parts.toList.map fun (i, x) => (i, a.eval x)) hfa hrep (by simp [e1, pl]) (fun i p q hp hq => by
                    simp only [List.getElem?_map, Option.map_eq_some_iff] at hq
                    obtain ⟨⟨j, x⟩, hx, rfl⟩ := hq
                    obtain ⟨q', k1, k2, k3, k4⟩ := e2 i p hp
                    obtain ⟨x', g1, g2⟩ := pg i q' k1
                    rw [hx] at g1
                    simp only [Option.some.injEq, Prod.mk.injEq] at g1
                    obtain ⟨rfl, rfl⟩ := g1
                    refine ⟨by rw [k2, k4], ?_⟩
                    rw [k3]
                    exact cells_of g2)
                  have hsz : cs'.size = len * einfo.size := by
                    have hl : cs.length = len * einfo.size := by
                      have : ∀ (l : List (Nat × List AV)) (z cs : List AV), fillA z l = some cs → cs.length = z.length := by
                        intro l
                        induction l with
                        | nil => intro z cs h; simp [fillA] at h; subst h; rfl
                        | cons p l ih =>
                          intro z cs h
                          obtain ⟨o, v⟩ := p
                          simp only [fillA] at h
                          split at h
                          · rw [ih _ _ h]; simp; omega
                          · cases h
                      rw [this _ _ _ hfa, replA_len, hzl]
                    have := c2.length
                    simp only [Array.length_toList] at this
                    omega
                  refine does_row h hN hn hf (T := e) (cs := cs') ?_ c2 hsz
                  have hbig' : ¬ (16777216 < len * einfo.size) := by omega
                  rw [← hpt] at c1
                  by_cases h0 : len * einfo.size = 0
                  · have hm : madeCells zv.cells (len * einfo.size) = #[] := by simp [madeCells, h0]
                    rw [hm] at c1
                    simp [Instr.buildSlice, run_underlying h2, sizeOf, typeInfo, g1, h0, newRow, Array.range_zero', c1]
                  · simp only [madeCells] at c1
                    simp [Instr.buildSlice, run_underlying h2, sizeOf, typeInfo, zeroValue, g1, hz1, hbig', h0, newRow, c1]
            · cases hr
    · cases hr

theorem makeSlice_ok (ok : TyOk E) (h : Rel E γ N H.bs.get w) (hN : N ≤ w.heap.size) (hF : FRel γ F a) {t : TypeId} {x y : Operand} {r : R} (hr : makeSliceX E F t x y H = some r)
    (hf : ∀ id, H.n ≤ id → id < r.n → γ.loc id = none) : Does E γ N H w (asNext (Instr.makeSlice t (a.eval x) (a.eval y))) r := by
  unfold makeSliceX at hr
  cases ht : E.ty.get t with
  | none => simp [ht] at hr
  | some i =>
    obtain ⟨info, d, h1, h2, rfl⟩ := tiOf_ok (ok.ty ht)
    simp only [ht] at hr
    split at hr
    · rename_i e hk
      obtain rfl := kind_slice hk
      split at hr
      · rename_i j lv cv he hx hy
        obtain ⟨einfo, ed, g1, g2, rfl⟩ := tiOf_ok (ok.ty he)
        split at hr
        · rename_i z n m hz hn hm
          simp only at hz
          obtain ⟨hfl, zv, hz1, hz2⟩ := zeroOf_ok hz
          split at hr
          · rename_i hc
            obtain ⟨rfl, hbig, hzl⟩ := hc
            dsimp only at hbig hzl
            obtain ⟨H', hnew, rfl⟩ := newR_some hr
            obtain ⟨k1, q1⟩ := natOf_ok hn (opA_ok hF hx)
            obtain ⟨k2, q2⟩ := natOf_ok hm (opA_ok hF hy)
            rw [q1, q2]
            have hzc := absCells_ok (γ := γ) hz2
            have hzs : zv.cells.size = einfo.size := by have := hzc.length; simp only [Array.length_toList] at this; omega
            have hrep := repl_ok hzc n
            rw [hzs] at hrep
            have b1 : n * (einfo.bytes + einfo.size + 1) = n * einfo.bytes + n * einfo.size + n := by rw [Nat.mul_add, Nat.mul_add, Nat.mul_one]
            have b2 : (einfo.bytes : Int) * (n : Int) ≤ 281474976710656 := by
              rw [← Int.natCast_mul, Nat.mul_comm]; omega
            have hrun := run_makeSlice (P := E.P) w t e einfo zv h2 g1 hz1 k1 k2 (n : Int) (n : Int) (by omega) (Int.le_refl _) (by simp only [Int.toNat_natCast]; omega) b2 (by omega)
            simp only [Int.toNat_natCast] at hrun
            exact does_row h hN hnew hf hrun hrep (size_madeCells _ _)
          · cases hr
        · cases hr
      · cases hr
    · cases hr
end
end Go.Proofs.YteopodohghnokaaGreatDoor.Ex
end
section
namespace Go.Proofs.YteopodohghnokaaGreatDoor.Ex
open Go
set_option linter.unusedVariables false
set_option linter.unusedSimpArgs false
section
variable {E : Env} {γ : Cx} {N : Nat} {H : AH} {w : World} {F : Fr} {a : Act}

theorem bytesA_ok (s : List UInt8) : VRs γ (bytesA s) (byteCells ⟨s.toArray⟩) := by
  unfold bytesA byteCells
  simp only
  induction s with
  | nil => exact .nil
  | cons c s ih => exact .cons (.int _ _) ih
theorem bytesA_okc (s : List UInt8) : (bytesA s).all okc = true := by
  unfold bytesA
  induction s with
  | nil => rfl
  | cons c s ih => simp [okc] at ih ⊢

theorem strOfA_ok : ∀ {l : List AV} {s : List UInt8} {vs : List Value}, strOfA l = some s → VRs γ l vs → l.length = s.length ∧ ∃ ns : List Int, vs = ns.map (Value.int .u8) ∧ s = ns.map fun n => UInt8.ofNat n.toNat
  | [], s, vs, h, hv => by
    simp [strOfA] at h; subst h
    cases hv
    exact ⟨rfl, [], rfl, rfl⟩
  | x :: l, s, vs, h, hv => by
    simp only [strOfA] at h
    split at h
    · rename_i n
      cases hr : strOfA l with
      | none => simp [hr] at h
      | some r =>
        simp only [hr, Option.some.injEq] at h
        subst h
        cases hv with
        | cons hx hl =>
          cases hx
          obtain ⟨e1, ns, e2, e3⟩ := strOfA_ok hr hl
          exact ⟨by simp [e1], n :: ns, by simp [e2], by simp [e3]⟩
    · cases h

theorem foldl_push : ∀ (ns : List Int) (r : ByteArray), ns.foldl (fun r n => r.push (UInt8.ofNat n.toNat)) r = ⟨r.data ++ (ns.map fun n => UInt8.ofNat n.toNat).toArray⟩
  | [], r => by simp
  | n :: ns, r => by
    simp only [List.foldl_cons]
    rw [foldl_push ns]
    simp [ByteArray.push]

theorem conv_ok (ok : TyOk E) (h : Rel E γ N H.bs.get w) (hN : N ≤ w.heap.size) (hF : FRel γ F a) {src dst : TypeId} {x : Operand} {r : R} (hr : convX E F src dst x H = some r)
    (hf : ∀ id, H.n ≤ id → id < r.n → γ.loc id = none) : Does E γ N H w (asNext (convert src dst (a.eval x))) r := by
  unfold convX at hr
  cases hx : opA F x with
  | none => simp [hx] at hr
  | some u =>
    simp only [hx] at hr
    have hp := opA_ok hF hx
    generalize a.eval x = xv at hp
    unfold convA at hr
    cases hs : E.ty.get src with
    | none => simp [hs] at hr
    | some si =>
      obtain ⟨sinfo, sd, s1, s2, rfl⟩ := tiOf_ok (ok.ty hs)
      cases hd : E.ty.get dst with
      | none => simp [hs, hd] at hr
      | some di =>
        obtain ⟨dinfo, dd, d1, d2, rfl⟩ := tiOf_ok (ok.ty hd)
        simp only [hs, hd] at hr
        split at hr
        · rename_i k hk
          obtain rfl := kind_int hk
          unfold convI at hr
          split at hr
          · cases hp
            rename_i q n
            simp only [Option.some.injEq] at hr; subst hr
            exact does_val h (run_asNext (v := .int k (k.wrap n)) (by cases sd <;> simp [convert, run_underlying s2, run_underlying d2, Conv.intToInt])) (by rw [wrapF_eq]; exact .int _ _)
          · cases hp
            rename_i q i c e
            split at hr
            · rename_i v hv
              simp only [Option.some.injEq] at hr; subst hr
              exact does_val h (run_asNext (v := .int k (k.wrap (Lin.at γ ⟨i, c, e⟩))) (by cases sd <;> simp [convert, run_underlying s2, run_underlying d2, Conv.intToInt, Lin.at])) (Lin.val_ok h.symOk hv)
            · cases hr
          · cases hr
        · rename_i e hk
          obtain rfl := kind_slice hk
          split at hr
          · rename_i hsk
            obtain rfl := kind_str hsk
            unfold convB at hr
            cases he : E.ty.get e with
            | none => simp [he] at hr
            | some ie =>
              obtain ⟨einfo, ed, g1, g2, rfl⟩ := tiOf_ok (ok.ty he)
              simp only [he] at hr
              split at hr
              · rename_i s hk2
                obtain rfl := kind_int hk2
                split at hr
                · rename_i hsz
                  cases hp
                  cases hn : H.new (bytesA s) with
                  | none => simp [hn] at hr
                  | some H' =>
                    simp only [hn, Option.some.injEq] at hr
                    subst hr
                    have hrun := run_bytes_of_string (P := E.P) w src dst e ⟨s.toArray⟩ s2 d2 g2
                    have hge := grownCap_ge w s.length 0 e
                    have hcs : (bytesRow ⟨s.toArray⟩ (grownCap w s.length 0 e)).size = grownCap w s.length 0 e := by
                      simp [bytesRow, size_ofList]; omega
                    refine does_new (cs := bytesRow ⟨s.toArray⟩ (grownCap w s.length 0 e)) (T := e) (fz := ((bytesRow ⟨s.toArray⟩ (grownCap w s.length 0 e)).size, (bytesRow ⟨s.toArray⟩ (grownCap w s.length 0 e)).size + 1)) h hN hn hf (vs := byteCells ⟨s.toArray⟩) (run_asNext hrun) rfl
                      (fun i hi hh => by have := hh.1; omega) (bytesA_ok s) ?_ ?_ ?_
                    · rw [byteCells_length, size_ofList, hcs]; exact hge
                    · intro i hi
                      rw [byteCells_length, size_ofList] at hi
                      simp [bytesRow, byteCells, Array.getElem?_append, hi]
                    · refine .slice (Cx.bind_same _ _ _) hge (by simp) (fun _ => by simp) ?_
                      simp only [size_ofList]
                      rw [hcs]; omega
                · cases hr
              · cases hr
          · cases hr
        · rename_i hk
          obtain rfl := kind_str hk
          unfold convS at hr
          split at hr
          · cases hp
            simp only [Option.some.injEq] at hr; subst hr
            exact does_val h (run_asNext (v := .string ⟨_⟩) (by cases sd <;> simp [convert, run_underlying s2, run_underlying d2])) (.str _)
          · split at hr
            · rename_i e hk2
              obtain rfl := kind_slice hk2
              cases he : E.ty.get e with
              | none => simp [he] at hr
              | some ie =>
                obtain ⟨einfo, ed, g1, g2, rfl⟩ := tiOf_ok (ok.ty he)
                simp only [he] at hr
                split at hr
                · rename_i hk3 hno
                  obtain rfl := kind_int hk3
                  cases hp
                  simp only [Option.some.injEq] at hr; subst hr
                  refine does_val h (run_asNext (v := .string ⟨([] : List UInt8).toArray⟩) ?_) (.str _)
                  rw [run_convert_bytes_string w src dst e none 0 0 s2 g2 d2]
                  rfl
                · rename_i b o n full hk3 hno
                  obtain rfl := kind_int hk3
                  cases hl : loadA H b o n with
                  | none => simp [hl] at hr
                  | some l =>
                    simp only [hl] at hr
                    cases hst : strOfA l with
                    | none => simp [hst] at hr
                    | some s =>
                      simp only [hst, Option.some.injEq] at hr
                      subst hr
                      cases hp with
                      | slice hloc hlen hfull haddr hfit =>
                        rename_i β ω σ cap A
                        obtain ⟨β', ω', σ', vs, e1, e2, e3, e4, e5, e6⟩ := loadA_ok h hl
                        rw [hloc] at e1
                        simp only [Option.some.injEq, Prod.mk.injEq] at e1
                        obtain ⟨rfl, rfl, rfl⟩ := e1
                        obtain ⟨q1, ns, q2, q3⟩ := strOfA_ok hst e2
                        have hA : ∀ j v, vs[j]? = some v → w.cell? (A.add j) = some v := fun j v hj => by
                          have := (List.getElem?_eq_some_iff.1 hj).1
                          rw [haddr (by omega)]
                          exact e6 j v hj
                        have hload := run_loadCells_list (P := E.P) w A vs hA
                        rw [e3, q2] at hload
                        refine does_val h (run_asNext (v := .string ⟨s.toArray⟩) ?_) (.str _)
                        rw [run_convert_bytes_string w src dst e (some A) n cap s2 g2 d2, run_bytesToString w A n cap ns hload, foldl_push, q3]
                        have he0 : ByteArray.empty.data = #[] := rfl
                        simp [he0]
                · cases hr
            · cases hr
        · cases hr
end
end Go.Proofs.YteopodohghnokaaGreatDoor.Ex
end
