/- The fast twin: each operation is the plain runner's. -/
import Derived.Test.YtfcfliclmjikkaaGreatDoorFb
namespace Go.Proofs.YtfcfliclmjikkaaGreatDoor.Ex
open Go
set_option linter.unusedVariables false
set_option linter.unusedSimpArgs false

theorem blt_lt {a b : Nat} (h : Nat.blt a b = true) : a < b := by
  unfold Nat.blt at h
  rw [Nat.ble_eq] at h
  omega
theorem compOpd_ok {F : NF} {G : Fr} (hF : RF F G) {x : Operand} {c : COpd} (h : compOpd x = some c) : opA G x = some (opdV F c) := by
  cases x with
  | tmp t =>
    change (bif Nat.blt t 512 then some (COpd.t t) else none) = some c at h
    cases hb : Nat.blt t 512 with
    | false => rw [hb] at h; cases h
    | true =>
      rw [hb] at h
      cases h
      show some (tmpA G t) = some (look F t)
      rw [hF t (blt_lt hb)]
  | const v =>
    simp only [compOpd, Option.map_eq_some_iff] at h
    obtain ⟨a, h, rfl⟩ := h
    exact h
  | global g => cases h; rfl
  | func f => cases h; rfl
theorem absV_nil {v : Value} (h : absV v = some .nilIface) : v = .nilIface := by
  unfold absV at h
  split at h <;> first | rfl | (simp at h; done)
theorem absC_nil {v : Value} (h : absC v = some .nilIface) : v = .nilIface := by
  unfold absC at h
  split at h
  · rename_i x hx
    simp only [Option.some.injEq] at h
    subst h
    exact absV_nil hx
  · split at h
    · split at h
      · simp at h
      · cases h
    · cases h
theorem nilB_none {E : Env} {op : BinOp} {t : TypeId} {G : Fr} {x y : Operand} {a b : AV} (hn : (isNilK x || isNilK y) = false) (hx : opA G x = some a) (hy : opA G y = some b) : nilB E op t x y a b = none := by
  rw [Bool.or_eq_false_iff] at hn
  unfold nilB
  split
  · have key : ∀ {z : Operand}, isNilK z = false → opA G z = some .nilIface → isK z = false := fun {z} h1 h2 => by
      cases z with
      | const v =>
        rw [absC_nil h2] at h1
        cases h1
      | _ => rfl
    rw [key hn.1 hx, key hn.2 hy]
    rfl
  · rfl
theorem compOpds_ok {F : NF} {G : Fr} (hF : RF F G) : ∀ {l : List Operand} {cs : List COpd}, compOpds l = some cs → opsA G l = some (cs.map (opdV F))
  | [], cs, h => by cases h; rfl
  | x :: l, cs, h => by
    simp only [compOpds] at h
    cases hx : compOpd x with
    | none => rw [hx] at h; cases h
    | some a =>
      cases hl : compOpds l with
      | none => rw [hx, hl] at h; cases h
      | some r =>
        rw [hx, hl] at h
        cases h
        simp only [opsA, compOpd_ok hF hx, compOpds_ok hF hl, List.map_cons]
theorem compParts_ok {F : NF} {G : Fr} (hF : RF F G) : ∀ {l : List (Nat × Operand)} {cs : List COpd}, compOpds (l.map (·.2)) = some cs → partsA G l = some (pairs (l.map (·.1)) (cs.map (opdV F)))
  | [], cs, h => by cases h; rfl
  | (j, x) :: l, cs, h => by
    simp only [compOpds, List.map_cons] at h
    cases hx : compOpd x with
    | none => rw [hx] at h; cases h
    | some a =>
      cases hl : compOpds (l.map (·.2)) with
      | none => rw [hx, hl] at h; cases h
      | some r =>
        rw [hx, hl] at h
        cases h
        simp only [partsA, compOpd_ok hF hx, compParts_ok hF hl, List.map_cons, pairs]
theorem compOO_ok {F : NF} {G : Fr} (hF : RF F G) {x : Option Operand} {c : Option COpd} (h : compOO x = some c) : optA G x = some (c.map (opdV F)) := by
  cases x with
  | none => cases h; rfl
  | some x =>
    simp only [compOO, Option.map_eq_some_iff] at h
    obtain ⟨a, h, rfl⟩ := h
    simp only [optA, compOpd_ok hF h, Option.map_some]

/-! ### Numbers -/
theorem kindNo_eq {k k' : IntKind} (h : Nat.beq (kindNo k) (kindNo k') = true) : k = k' := by
  cases k <;> cases k' <;> first | rfl | cases h
theorem capOf_high (k : IntKind) : (capOf k : Int) = highOf k := by cases k <;> rfl
theorem lowOf_le (k : IntKind) : lowOf k ≤ 0 := by cases k <;> simp [lowOf]
theorem wrapF_cap {k : IntKind} {n : Nat} (h : Nat.ble n (capOf k) = true) : wrapF k (.ofNat n) = .ofNat n := by
  rw [Nat.ble_eq] at h
  unfold wrapF
  have h1 := lowOf_le k
  have h2 := capOf_high k
  have : inKind k (.ofNat n) = true := by
    unfold inKind
    rw [decide_eq_true (show lowOf k ≤ Int.ofNat n by rw [Int.ofNat_eq_natCast]; omega), decide_eq_true (show Int.ofNat n ≤ highOf k by rw [Int.ofNat_eq_natCast]; omega)]
    rfl
  rw [this]
  rfl
theorem intCase_ok {a b : Int} {k : Nat → Nat → Res} {no : Res} {r : Ext × AV × AH} (h : intCase a b k no = some r) : (∃ m n, a = .ofNat m ∧ b = .ofNat n ∧ k m n = some r) ∨ no = some r := by
  cases a with
  | ofNat m =>
    cases b with
    | ofNat n => exact .inl ⟨m, n, rfl, rfl, h⟩
    | negSucc n => exact .inr h
  | negSucc m => exact .inr h
theorem finI_ok {k : IntKind} {n : Nat} {c : KA} {no : Res} {r : Ext × AV × AH} (h : finI k n c no = some r) : (wrapF k (.ofNat n) = .ofNat n ∧ c (.int k (.ofNat n)) = some r) ∨ no = some r := by
  unfold finI at h
  replace h := iteK_ok h
  rcases h with ⟨hc, h⟩ | ⟨hc, h⟩
  · rw [finN_eq] at h
    exact .inl ⟨wrapF_cap hc, h⟩
  · exact .inr h
theorem beq_nat {m n : Nat} : ((Int.ofNat m) == (Int.ofNat n)) = Nat.beq m n := by
  cases h : Nat.beq m n with
  | true => rw [Nat.eq_of_beq_eq_true h]; simp
  | false =>
    simp only [beq_eq_false_iff_ne, ne_eq, Int.ofNat_eq_natCast]
    intro e
    have : m = n := by omega
    subst this
    rw [Nat.beq_refl] at h
    cases h
theorem lt_nat {m n : Nat} : decide (Int.ofNat m < Int.ofNat n) = Nat.blt m n := by
  unfold Nat.blt
  rw [ble_lt]
  congr 1
  simp only [Int.ofNat_eq_natCast, eq_iff_iff]
  omega
theorem le_nat {m n : Nat} : decide (Int.ofNat m ≤ Int.ofNat n) = Nat.ble m n := by
  rw [ble_lt]
  congr 1
  simp only [Int.ofNat_eq_natCast, eq_iff_iff]
  omega
theorem iop_ok {op : BinOp} {k : IntKind} {m n : Nat} {c : KA} {no : Res} {r : Ext × AV × AH} (h : (iopOf op).run k m n c no = some r) : (∃ v, isShift op = false ∧ intOp op k (.ofNat m) (.ofNat n) = some v ∧ c v = some r) ∨ no = some r := by
  cases op <;> try exact .inr h
  case add =>
    replace h := finI_ok (n := m + n) h
    rcases h with ⟨e, h⟩ | h
    · refine .inl ⟨_, rfl, ?_, h⟩
      show some (AV.int k (wrapF k (Int.ofNat m + Int.ofNat n))) = _
      rw [show Int.ofNat m + Int.ofNat n = Int.ofNat (m + n) from rfl, e]
    · exact .inr h
  case sub =>
    replace h := iteK_ok h
    rcases h with ⟨hc, h⟩ | ⟨hc, h⟩
    · replace h := finI_ok (n := m - n) h
      rcases h with ⟨e, h⟩ | h
      · refine .inl ⟨_, rfl, ?_, h⟩
        show some (AV.int k (wrapF k (Int.ofNat m - Int.ofNat n))) = _
        rw [Nat.ble_eq] at hc
        rw [show Int.ofNat m - Int.ofNat n = Int.ofNat (m - n) by simp only [Int.ofNat_eq_natCast]; omega, e]
      · exact .inr h
    · exact .inr h
  case mul =>
    replace h := finI_ok (n := m * n) h
    rcases h with ⟨e, h⟩ | h
    · refine .inl ⟨_, rfl, ?_, h⟩
      show some (AV.int k (wrapF k (Int.ofNat m * Int.ofNat n))) = _
      rw [show Int.ofNat m * Int.ofNat n = Int.ofNat (m * n) from rfl, e]
    · exact .inr h
  case eql =>
    change boolK (Nat.beq m n) c = some r at h
    rw [boolK_eq, ← beq_nat] at h
    exact .inl ⟨_, rfl, rfl, h⟩
  case neq =>
    change iteK (Nat.beq m n) (c (.bool false)) (c (.bool true)) = some r at h
    refine .inl ⟨.bool (!(Int.ofNat m == Int.ofNat n)), rfl, rfl, ?_⟩
    rw [beq_nat]
    replace h := iteK_ok h
    rcases h with ⟨hc, h⟩ | ⟨hc, h⟩
    · rw [hc]; exact h
    · rw [hc]; exact h
  case lss =>
    change boolK (Nat.blt m n) c = some r at h
    rw [boolK_eq, ← lt_nat] at h
    exact .inl ⟨_, rfl, rfl, h⟩
  case leq =>
    change boolK (Nat.ble m n) c = some r at h
    rw [boolK_eq, ← le_nat] at h
    exact .inl ⟨_, rfl, rfl, h⟩
  case gtr =>
    change boolK (Nat.blt n m) c = some r at h
    rw [boolK_eq, ← lt_nat] at h
    exact .inl ⟨_, rfl, rfl, h⟩
  case geq =>
    change boolK (Nat.ble n m) c = some r at h
    rw [boolK_eq, ← le_nat] at h
    exact .inl ⟨_, rfl, rfl, h⟩
theorem eqS_eq : ∀ (s t : List UInt8), eqS s t = (s == t)
  | [], [] => rfl
  | [], y :: t => rfl
  | x :: s, [] => rfl
  | x :: s, y :: t => by
    show @Bool.rec (fun _ => Bool) false (eqS s t) (Nat.beq x.toNat y.toNat) = ((x == y) && (s == t))
    rw [eqS_eq s t]
    cases h : Nat.beq x.toNat y.toNat with
    | true =>
      have : x = y := UInt8.toNat_inj.1 (Nat.eq_of_beq_eq_true h)
      subst this
      simp
    | false =>
      have : (x == y) = false := by
        simp only [beq_eq_false_iff_ne, ne_eq]
        intro e
        subst e
        rw [Nat.beq_refl] at h
        cases h
      rw [this]
      rfl
theorem catK_eq : ∀ (s t : List UInt8) (k : List UInt8 → Res), catK s t k = k (s ++ t)
  | [], t, k => rfl
  | x :: s, t, k => by
    show catK s t (fun l => k (x :: l)) = _
    rw [catK_eq s t]
    rfl
theorem nthS_eq : ∀ (s : List UInt8) (n : Nat), nthS s n = s[n]?
  | [], n => by simp [nthS]
  | x :: s, 0 => rfl
  | x :: s, n + 1 => by
    show nthS s n = _
    rw [nthS_eq s n]
    rfl
theorem sop_ok {op : BinOp} {s t : List UInt8} {c : KA} {no : Res} {r : Ext × AV × AH} (h : (sopOf op).run s t c no = some r) : (∃ v, strOp op s t = some v ∧ c v = some r) ∨ no = some r := by
  cases op <;> try exact .inr h
  case add =>
    replace h := iteK_ok h
    rcases h with ⟨hc, h⟩ | ⟨hc, h⟩
    · rw [catK_eq] at h
      rw [Nat.ble_eq] at hc
      exact .inl ⟨_, if_pos hc, h⟩
    · exact .inr h
  case eql =>
    change boolK (eqS s t) c = some r at h
    rw [boolK_eq, eqS_eq] at h
    exact .inl ⟨_, rfl, h⟩
  case neq =>
    change iteK (eqS s t) (c (.bool false)) (c (.bool true)) = some r at h
    rw [eqS_eq] at h
    refine .inl ⟨.bool (!(s == t)), rfl, ?_⟩
    replace h := iteK_ok h
    rcases h with ⟨hc, h⟩ | ⟨hc, h⟩
    · rw [hc]; exact h
    · rw [hc]; exact h
theorem binK_ok {E : Env} {op : BinOp} {t : TypeId} {x y : AV} {c : KA} {slow : Res} {r : Ext × AV × AH} (h : binK (iopOf op).run (sopOf op).run x y c slow = some r) (hs : slow = some r → ∃ v, binA E op t x y = some v ∧ c v = some r) : ∃ v, binA E op t x y = some v ∧ c v = some r := by
  unfold binK at h
  replace h := ifInt_ok h
  rcases h with ⟨k, a, rfl, h⟩ | h
  · replace h := ifInt_ok h
    rcases h with ⟨k', b, rfl, h⟩ | h
    · replace h := iteK_ok h
      rcases h with ⟨hk, h⟩ | ⟨hk, h⟩
      · replace h := intCase_ok h
        rcases h with ⟨m, n, rfl, rfl, h⟩ | h
        · replace h := iop_ok h
          rcases h with ⟨v, _, h1, h⟩ | h
          · refine ⟨v, ?_, h⟩
            have := kindNo_eq hk
            subst this
            simp only [binA, decide_true, Bool.or_true, if_true]
            exact h1
          · exact hs h
        · exact hs h
      · exact hs h
    · exact hs h
  · replace h := ifStr_ok h
    rcases h with ⟨s, rfl, h⟩ | h
    · replace h := ifStr_ok h
      rcases h with ⟨t', rfl, h⟩ | h
      · replace h := sop_ok h
        rcases h with ⟨v, h1, h⟩ | h
        · exact ⟨v, h1, h⟩
        · exact hs h
      · exact hs h
    · exact hs h

/-! ### Operations -/
theorem finK_val (call : CallK) (w : AV → NF → (NF → Res) → Res) (F : NF) (v : AV) (H : AH) (k : KN) : finK call w F (.val v H) k = w v F fun F => k F H := rfl
theorem genOf_ok {o : Op} {c : CO} (h : genOf o = some c) : c = .gen o (readsOf o) ∧ ∀ t ∈ readsOf o, t < 512 := by
  unfold genOf at h
  cases hb : (readsOf o).all (Nat.blt · 512) with
  | false => rw [hb] at h; cases h
  | true =>
    rw [hb] at h
    cases h
    exact ⟨rfl, fun t ht => blt_lt (List.all_eq_true.1 hb t ht)⟩
theorem miniF_ok : ∀ (l : List Nat) (F : NF) (t : Tr AV) (k : Tr AV → Res) (r : Ext × AV × AH), miniF l F t k = some r → ∃ t', k t' = some r ∧ (∀ i ∈ l, tmpA t' i = look F i) ∧ ∀ i, i ∉ l → tmpA t' i = tmpA t i
  | [], F, t, k, r, h => ⟨t, h, fun i hi => (by cases hi), fun i _ => rfl⟩
  | j :: l, F, t, k, r, h => by
    change (slotOf j).get F (fun v => setK t j v fun t => miniF l F t k) = some r at h
    rw [slot_get, setK_eq] at h
    obtain ⟨t', h1, h2, h3⟩ := miniF_ok l F _ k r h
    refine ⟨t', h1, fun i hi => ?_, fun i hi => ?_⟩
    · by_cases hil : i ∈ l
      · exact h2 i hil
      · have : i = j := by
          rcases List.mem_cons.1 hi with e | e
          · exact e
          · exact absurd e hil
        subst this
        rw [h3 i hil, tmpA_set, if_pos rfl]
    · rw [h3 i (fun e => hi (List.mem_cons_of_mem _ e)), tmpA_set, if_neg (fun e => hi (by rw [e]; exact List.mem_cons_self ..))]

theorem gen_ok {E : Env} {d : Option Nat} {call : CallK} {F : NF} {G : Fr} {H : AH} {k : KN} {r : Ext × AV × AH} {o : Op} {c : CO} (hc : genOf o = some c) (hF : RF F G) (h : (semO (wrOf d).run c).run ⟨E, call⟩ F H k = some r) : ∃ R, exOp E G o H = some R ∧ finK call (wrOf d).run F R k = some r := by
  obtain ⟨rfl, hr⟩ := genOf_ok hc
  change miniF (readsOf o) F .nil (fun G => optK (exOp E G o H) fun r => finK call (wrOf d).run F r k) = some r at h
  obtain ⟨t', h, h1, h2⟩ := miniF_ok _ _ _ _ _ h
  obtain ⟨R, hR, h⟩ := optK_ok h
  have : exOp E t' o H = exOp E G o H := exOp_reads (fun t ht => by rw [h1 t ht, hF t (hr t ht)]) H
  rw [this] at hR
  exact ⟨R, hR, h⟩
section
variable {E : Env} {d : Option Nat} {call : CallK} {F : NF} {G : Fr} {H : AH} {k : KN} {r : Ext × AV × AH}
theorem vR_ok {v : AV} (h : (wrOf d).run v F (fun F => k F H) = some r) : ∃ R, vR H (some v) = some R ∧ finK call (wrOf d).run F R k = some r := ⟨_, rfl, h⟩
theorem semO_ok {o : Op} {c : CO} (hc : compO E.ty o = some c) (hF : RF F G) (h : (semO (wrOf d).run c).run ⟨E, call⟩ F H k = some r) : ∃ R, exOp E G o H = some R ∧ finK call (wrOf d).run F R k = some r := by
  cases o
  case move x =>
    simp only [compO, Option.map_eq_some_iff] at hc
    obtain ⟨x', hx, rfl⟩ := hc
    change (rdOf x').run F (fun v => (wrOf d).run v F fun F => k F H) = some r at h
    rw [rd_eq] at h
    show ∃ R, vR H (opA G x) = some R ∧ _
    rw [compOpd_ok hF hx]
    exact vR_ok h
  case assign x =>
    simp only [compO, Option.map_eq_some_iff] at hc
    obtain ⟨x', hx, rfl⟩ := hc
    change (rdOf x').run F (fun v => (wrOf d).run v F fun F => k F H) = some r at h
    rw [rd_eq] at h
    show ∃ R, vR H (opA G x) = some R ∧ _
    rw [compOpd_ok hF hx]
    exact vR_ok h
  case pick a x y =>
    simp only [compO] at hc
    split at hc
    · rename_i a' x' y' ha hx hy
      cases hc
      change (rdOf a').run F (fun v => v.ifBool (fun t => @Bool.rec (fun _ => Res) ((rdOf y').run F fun v => (wrOf d).run v F fun F => k F H) ((rdOf x').run F fun v => (wrOf d).run v F fun F => k F H) t) none) = some r at h
      rw [rd_eq] at h
      replace h := ifBool_ok h
      rcases h with ⟨b, hb, h⟩ | h
      · show ∃ R, pickX G a x y H = some R ∧ _
        unfold pickX
        rw [compOpd_ok hF ha, hb]
        cases b
        · dsimp only at h
          rw [rd_eq] at h
          dsimp only
          rw [compOpd_ok hF hy]
          exact vR_ok h
        · dsimp only at h
          rw [rd_eq] at h
          dsimp only
          rw [compOpd_ok hF hx]
          exact vR_ok h
      · cases h
    · cases hc
  case load t a =>
    simp only [compO] at hc
    split at hc
    · rename_i i a' hi ha
      cases hc
      show ∃ R, loadX E G t a H = some R ∧ _
      unfold loadX
      rw [compOpd_ok hF ha]
      dsimp only
      cases hg : i.kind.isAgg
      · rw [hg] at h
        change (rdOf a').run F (fun p => loadK1 E t p H fun v => (wrOf d).run v F fun F => k F H) = some r at h
        rw [rd_eq] at h
        obtain ⟨v, hv, h⟩ := loadK1_ok hi hg h
        rw [hv]
        exact vR_ok h
      · rw [hg] at h
        change (rdOf a').run F (fun p => loadKn E t i.size p H fun v => (wrOf d).run v F fun F => k F H) = some r at h
        rw [rd_eq] at h
        obtain ⟨v, hv, h⟩ := loadKn_ok hi hg h
        rw [hv]
        exact vR_ok h
    · cases hc
  case store t a x =>
    simp only [compO] at hc
    split at hc
    · rename_i i a' x' hi ha hx
      cases hc
      show ∃ R, storeX E G t a x H = some R ∧ _
      unfold storeX
      change (rdOf a').run F (fun p => (rdOf x').run F fun v => storeK i.size p v H fun H => (wrOf d).run (.tup []) F fun F => k F H) = some r at h
      rw [rd_eq, rd_eq] at h
      obtain ⟨b, o, hp, hl, H', hs, h⟩ := storeK_ok h
      rw [compOpd_ok hF ha, compOpd_ok hF hx, hi, hp]
      simp only
      rw [if_pos hl, hs]
      exact ⟨_, rfl, h⟩
    · cases hc
  case binOp op t x y u =>
    simp only [compO] at hc
    split at hc
    · exact gen_ok hc hF h
    rename_i hnk
    split at hc
    · rename_i x' y' hx hy
      cases hc
      show ∃ R, binX E G op t x y H = some R ∧ _
      unfold binX
      change (rdOf x').run F (fun a => (rdOf y').run F fun b => binK (iopOf op).run (sopOf op).run a b (fun v => (wrOf d).run v F fun F => k F H) (optK (binA E op t a b) fun v => (wrOf d).run v F fun F => k F H)) = some r at h
      rw [rd_eq, rd_eq] at h
      obtain ⟨v, hv, h⟩ := binK_ok h optK_ok
      have hnb := nilB_none (E := E) (op := op) (t := t) hnk (compOpd_ok hF hx) (compOpd_ok hF hy)
      rw [compOpd_ok hF hx, compOpd_ok hF hy]
      simp only
      rw [hnb, hv]
      exact vR_ok h
    · cases hc
  case unOp op t x =>
    show ∃ R, unX E G op x H = some R ∧ _
    unfold unX
    have key : ∀ x', compOpd x = some x' → (rdOf x').run F (fun v => optK (unA E op v) fun v => (wrOf d).run v F fun F => k F H) = some r → ∃ R, (match opA G x with | some a => vR H (unA E op a) | none => none) = some R ∧ finK call (wrOf d).run F R k = some r := by
      intro x' hx h
      rw [rd_eq] at h
      rw [compOpd_ok hF hx]
      obtain ⟨v, hv, h⟩ := optK_ok h
      simp only
      rw [hv]
      exact vR_ok h
    cases op
    case not =>
      simp only [compO, Option.map_eq_some_iff] at hc
      obtain ⟨x', hx, rfl⟩ := hc
      change (rdOf x').run F (fun v => v.ifBool (fun t => @Bool.rec (fun _ => Res) ((wrOf d).run (.bool true) F fun F => k F H) ((wrOf d).run (.bool false) F fun F => k F H) t) none) = some r at h
      rw [rd_eq] at h
      rw [compOpd_ok hF hx]
      replace h := ifBool_ok h
      rcases h with ⟨b, hb, h⟩ | h
      · rw [hb]
        cases b
        · exact ⟨_, rfl, h⟩
        · exact ⟨_, rfl, h⟩
      · cases h
    all_goals
      simp only [compO, Option.map_eq_some_iff] at hc
      obtain ⟨x', hx, rfl⟩ := hc
      exact key x' hx h
  case fieldAddr t x f =>
    simp only [compO] at hc
    split at hc
    · rename_i q i x' hf hx
      have hf : fieldOf E t f = some (q, i) := hf
      cases hc
      show ∃ R, fieldAddrX E G t x f H = some R ∧ _
      unfold fieldAddrX
      change (rdOf x').run F (fun p => p.ifPtr (fun b o => finN (Nat.add o q) fun o => (wrOf d).run (.ptr b o) F fun F => k F H) none) = some r at h
      rw [rd_eq] at h
      rw [compOpd_ok hF hx]
      replace h := ifPtr_ok h
      rcases h with ⟨b, o, hp, h⟩ | h
      · rw [finN_eq] at h
        rw [hp]
        simp only
        rw [hf]
        exact ⟨_, rfl, h⟩
      · cases h
    · exact gen_ok hc hF h
  case indexAddr t x ix =>
    simp only [compO] at hc
    split at hc
    · rename_i i x' ix' hi hx hix
      split at hc
      · rename_i e hk
        split at hc
        · rename_i j hj
          cases hc
          show ∃ R, indexAddrX E G t x ix H = some R ∧ _
          unfold indexAddrX
          change (rdOf x').run F (fun a => (rdOf ix').run F fun i => a.ifSl (fun b o len e => i.ifInt (fun _ n => @Int.rec (fun _ => Res) (fun n => iteK (Nat.blt n len) (iteK (Nat.beq j.size e) (finN (Nat.add o (Nat.mul n e)) fun o => (wrOf d).run (.ptr b o) F fun F => k F H) none) none) (fun _ => none) n) none) none none) = some r at h
          rw [rd_eq, rd_eq] at h
          rw [hi, compOpd_ok hF hx, compOpd_ok hF hix]
          replace h := ifSl_ok h
          rcases h with ⟨b, o, len, es, full, hv, h⟩ | ⟨hv, h⟩ | h
          · replace h := ifInt_ok h
            rcases h with ⟨kk, n, hn, h⟩ | h
            · cases n with
              | negSucc n => cases h
              | ofNat n =>
                obtain ⟨hlt, h⟩ := iteK_one h
                obtain ⟨hes, h⟩ := iteK_one h
                rw [finN_eq] at h
                rw [hv, hn]
                simp only [natOf, hk, hj]
                rw [if_pos ⟨blt_lt hlt, Nat.eq_of_beq_eq_true hes⟩]
                exact ⟨_, rfl, h⟩
            · cases h
          · cases h
          · cases h
        · exact gen_ok hc hF h
      · exact gen_ok hc hF h
    · exact gen_ok hc hF h
  case index t x ix =>
    simp only [compO] at hc
    split at hc
    · rename_i i x' ix' hi hx hix
      split at hc
      · rename_i hk
        cases hc
        show ∃ R, indexX E G t x ix H = some R ∧ _
        unfold indexX
        change (rdOf x').run F (fun a => (rdOf ix').run F fun i => a.ifStr (fun s => i.ifInt (fun _ n => @Int.rec (fun _ => Res) (fun n => optK (nthS s n) fun c => finN c.toNat fun n => (wrOf d).run (.int .u8 (.ofNat n)) F fun F => k F H) (fun _ => none) n) none) none) = some r at h
        rw [rd_eq, rd_eq] at h
        rw [hi, compOpd_ok hF hx, compOpd_ok hF hix]
        replace h := ifStr_ok h
        rcases h with ⟨s, hv, h⟩ | h
        · replace h := ifInt_ok h
          rcases h with ⟨kk, n, hn, h⟩ | h
          · cases n with
            | negSucc n => cases h
            | ofNat n =>
              obtain ⟨c, hc, h⟩ := optK_ok h
              rw [finN_eq] at h
              rw [nthS_eq] at hc
              rw [hv, hn]
              simp only [natOf, hk, hc]
              exact ⟨_, rfl, h⟩
          · cases h
        · cases h
      · exact gen_ok hc hF h
    · exact gen_ok hc hF h
  case extract x j =>
    simp only [compO, Option.map_eq_some_iff] at hc
    obtain ⟨x', hx, rfl⟩ := hc
    change (rdOf x').run F (fun v => v.ifTup (fun l => optK (l[j]?) fun v => (wrOf d).run v F fun F => k F H) none) = some r at h
    rw [rd_eq] at h
    show ∃ R, extractX G x j H = some R ∧ _
    unfold extractX
    rw [compOpd_ok hF hx]
    replace h := ifTup_ok h
    rcases h with ⟨l, hl, h⟩ | h
    · rw [hl]
      obtain ⟨v, hv, h⟩ := optK_ok h
      simp only
      rw [hv]
      exact vR_ok h
    · cases h
  case box t x =>
    simp only [compO, Option.map_eq_some_iff] at hc
    obtain ⟨x', hx, rfl⟩ := hc
    change (rdOf x').run F (fun v => iteK (isAggA v) (newL v.cells H fun n H => (wrOf d).run (.ptr n 0) F fun F => k F H) (setK .nil 0 v fun t => newK 1 t H fun n H => (wrOf d).run (.ptr n 0) F fun F => k F H)) = some r at h
    rw [rd_eq] at h
    show ∃ R, boxX G x H = some R ∧ _
    unfold boxX
    rw [compOpd_ok hF hx]
    simp only [newR]
    replace h := iteK_ok h
    rcases h with ⟨ha, h⟩ | ⟨ha, h⟩
    · obtain ⟨H', hn, h⟩ := newL_ok h
      rw [hn]
      exact ⟨_, rfl, h⟩
    · obtain ⟨e1, e2⟩ := isAggA_cells ha
      rw [setK_eq, newK_eq] at h
      rw [e1, AH.new, if_pos (by simp [e2])]
      exact ⟨_, rfl, h⟩
  case alloc t =>
    simp only [compO] at hc
    split at hc
    · rename_i i hi
      split at hc
      · rename_i z hz
        cases hb : z.all okc with
        | false => rw [hb] at hc; cases hc
        | true =>
          rw [hb] at hc
          cases hc
          change newK z.length (Tr.nil.put 0 z) H (fun n H => (wrOf d).run (.ptr n 0) F fun F => k F H) = some r at h
          rw [newK_eq] at h
          show ∃ R, allocX E t H = some R ∧ _
          simp only [allocX, hi, hz, newR, AH.new, hb, if_true]
          exact ⟨_, rfl, h⟩
      · cases hc
    · cases hc
  case makeFunc f first cap =>
    simp only [compO] at hc
    split at hc
    · rename_i f
      split at hc
      · rename_i a b ha hb
        cases hc
        change (rdsOf a).run F (fun a => (rdsOf b).run F fun b => (wrOf d).run (.func f a b) F fun F => k F H) = some r at h
        rw [rds_eq, rds_eq] at h
        show ∃ R, funcX G f first.toList cap.toList H = some R ∧ _
        unfold funcX
        rw [compOpds_ok hF ha, compOpds_ok hF hb]
        exact ⟨_, rfl, h⟩
      · cases hc
    · cases hc
  case buildSlice t len ps =>
    simp only [compO] at hc
    split at hc
    · rename_i i hi
      split at hc
      · rename_i e hk
        split at hc
        · rename_i j hj
          split at hc
          · rename_i z l hz hl
            cases hb : (Nat.beq z.length j.size && Nat.ble (len * j.size) 16777216) with
            | false => rw [hb] at hc; cases hc
            | true =>
              rw [hb] at hc
              cases hc
              rw [Bool.and_eq_true] at hb
              change (rdsOf l).run F (fun vs => optK (placeS j.size (pairs (ps.toList.map (·.1)) vs)) fun l => optK (fillA (replA z len) l) fun cs => newL cs H fun n H => (wrOf d).run (.slice n 0 len j.size true) F fun F => k F H) = some r at h
              rw [rds_eq] at h
              obtain ⟨l', h1, h⟩ := optK_ok h
              obtain ⟨cs, h2, h⟩ := optK_ok h
              obtain ⟨H', h3, h⟩ := newL_ok h
              show ∃ R, buildSliceX E G t len ps.toList H = some R ∧ _
              simp only [buildSliceX, hi, hk, hj, hz, compParts_ok hF hl]
              rw [if_pos ⟨Nat.eq_of_beq_eq_true hb.1, by have := hb.2; rwa [Nat.ble_eq] at this⟩, h1]
              simp only
              rw [h2]
              simp only [newR]
              rw [h3]
              exact ⟨_, rfl, h⟩
          · cases hc
        · cases hc
      · cases hc
    · cases hc
  case build t ps =>
    simp only [compO] at hc
    split at hc
    · rename_i i hi
      split at hc
      · rename_i fs hk
        split at hc
        · rename_i z l hz hl
          cases hc
          change (rdsOf l).run F (fun vs => optK (placeA E fs (pairs (ps.toList.map (·.1)) vs)) fun l => optK (fillA z l) fun cs => (wrOf d).run (.agg cs) F fun F => k F H) = some r at h
          rw [rds_eq] at h
          obtain ⟨l', h1, h⟩ := optK_ok h
          obtain ⟨cs, h2, h⟩ := optK_ok h
          show ∃ R, buildX E G t ps.toList H = some R ∧ _
          simp only [buildX, hi, hk, hz, compParts_ok hF hl, TK.isAgg, if_true]
          rw [h1]
          simp only [fillR]
          rw [h2]
          exact ⟨_, rfl, h⟩
        · cases hc
      · exact gen_ok hc hF h
    · cases hc
  case slice t x lo hi mx =>
    simp only [compO] at hc
    split at hc
    · rename_i x' a b c hx ha hb hcc
      cases hc
      change (rdOf x').run F (fun v => (rdoOf a).run F fun l => (rdoOf b).run F fun h => (rdoOf c).run F fun m => optK (sliceA E t v l h m) fun v => (wrOf d).run v F fun F => k F H) = some r at h
      rw [rd_eq, rdo_eq, rdo_eq, rdo_eq] at h
      obtain ⟨v, hv, h⟩ := optK_ok h
      show ∃ R, sliceX E G t x lo hi mx H = some R ∧ _
      simp only [sliceX, compOpd_ok hF hx, compOO_ok hF ha, compOO_ok hF hb, compOO_ok hF hcc, hv]
      exact vR_ok h
    · cases hc
  case makeInterface t x =>
    simp only [compO] at hc
    split at hc
    · rename_i i x' hi hx
      have key : ∀ c', CO.ifc t x' = c' → c' = c → (∃ kk, i.kind = kk ∧ kk ≠ .iface) → ∃ R, ifaceX E G t x H = some R ∧ finK call (wrOf d).run F R k = some r := by
        rintro _ rfl rfl ⟨kk, hk, hne⟩
        change (rdOf x').run F (fun v => (wrOf d).run (.iface t v) F fun F => k F H) = some r at h
        rw [rd_eq] at h
        simp only [ifaceX, compOpd_ok hF hx, hi, hk]
        cases kk <;> first | exact absurd rfl hne | exact ⟨_, rfl, h⟩
      split at hc
      · cases hc
      · rename_i hne
        cases hc
        exact key _ rfl rfl ⟨_, rfl, hne⟩
    · cases hc
  case nilCheck x =>
    simp only [compO, Option.map_eq_some_iff] at hc
    obtain ⟨x', hx, rfl⟩ := hc
    change (rdOf x').run F (fun v => iteK (nilcB v) ((wrOf d).run v F fun F => k F H) none) = some r at h
    rw [rd_eq] at h
    obtain ⟨hv, h⟩ := iteK_one h
    show ∃ R, nilCheckX G x H = some R ∧ _
    simp only [nilCheckX, compOpd_ok hF hx]
    revert hv h
    generalize opdV F x' = v
    intro hv h
    cases v <;> first | exact ⟨_, rfl, h⟩ | cases hv
  case field t x f =>
    simp only [compO] at hc
    split at hc
    · rename_i q i x' hf hx
      have hf : fieldOf E t f = some (q, i) := hf
      cases hc
      change (rdOf x').run F (fun v => optK (match v with | .agg cs => partA i cs q | _ => none) fun v => (wrOf d).run v F fun F => k F H) = some r at h
      rw [rd_eq] at h
      obtain ⟨v, hv, h⟩ := optK_ok h
      show ∃ R, fieldX E G t x f H = some R ∧ _
      simp only [fieldX, compOpd_ok hF hx]
      revert hv
      generalize opdV F x' = u
      intro hv
      cases u <;> first | (simp only [hf]; rw [show partA i _ q = some v from hv]; exact vR_ok h) | cases hv
    · cases hc
  case convert s t x =>
    simp only [compO] at hc
    split at hc
    · rename_i si di x' hs ht hx
      show ∃ R, convX E G s t x H = some R ∧ _
      simp only [convX, compOpd_ok hF hx]
      split at hc
      · rename_i kk hk
        cases hc
        simp only [convA, hs, ht, hk]
        change (rdOf x').run F (fun v => v.ifInt (fun _ n => @Int.rec (fun _ => Res) (fun n => iteK (Nat.ble n (capOf kk)) ((wrOf d).run (.int kk (.ofNat n)) F fun F => k F H) (optK (convI E kk v H) fun r => finK (fun _ _ _ _ => none) (wrOf d).run F r k)) (fun _ => optK (convI E kk v H) fun r => finK (fun _ _ _ _ => none) (wrOf d).run F r k) n) (optK (convI E kk v H) fun r => finK (fun _ _ _ _ => none) (wrOf d).run F r k)) = some r at h
        rw [rd_eq] at h
        have slow : (optK (convI E kk (opdV F x') H) fun r => finK (fun _ _ _ _ => none) (wrOf d).run F r k) = some r → ∃ R, convI E kk (opdV F x') H = some R ∧ finK call (wrOf d).run F R k = some r := by
          intro h
          obtain ⟨R, hR, h⟩ := optK_ok h
          refine ⟨R, hR, ?_⟩
          cases R with
          | val v H' => exact h
          | skip H' => exact h
          | call f as H' => cases h
        replace h := ifInt_ok h
        rcases h with ⟨k0, n, hn, h⟩ | h
        · cases n with
          | negSucc n => exact slow h
          | ofNat n =>
            replace h := iteK_ok h
            rcases h with ⟨hle, h⟩ | ⟨hle, h⟩
            · rw [hn]
              exact ⟨.val (.int kk (.ofNat n)) H, by rw [convI, wrapF_cap hle], h⟩
            · exact slow h
        · exact slow h
      · cases hc
        change (rdOf x').run F (fun v => optK (convA E s t v H) fun r => finK (fun _ _ _ _ => none) (wrOf d).run F r k) = some r at h
        rw [rd_eq] at h
        obtain ⟨R, hR, h⟩ := optK_ok h
        refine ⟨R, hR, ?_⟩
        cases R with
        | val v H' => exact h
        | skip H' => exact h
        | call f as H' => cases h
    · cases hc
  case call c =>
    show ∃ R, callX E G c H = some R ∧ _
    simp only [compO] at hc
    split at hc
    · rename_i f hcal
      split at hc
      · rename_i g l hf hl
        cases hc
        change (rdsOf l).run F (fun as => memoK (call g as H endK) fun v H => (wrOf d).run v F fun F => k F H) = some r at h
        rw [rds_eq] at h
        simp only [callX, compOpds_ok hF hl, hcal, compOpd_ok hF hf, opdV, callA, List.nil_append, List.append_nil]
        exact ⟨_, rfl, h⟩
      · rename_i i l hf hl
        cases hc
        change (rdOf (.t i)).run F (fun fv => (rdsOf l).run F fun as => fv.ifFunc (fun f a b => memoK (call f (a ++ as ++ b) H endK) fun v H => (wrOf d).run v F fun F => k F H) none) = some r at h
        rw [rd_eq, rds_eq] at h
        simp only [callX, compOpds_ok hF hl, hcal, compOpd_ok hF hf]
        replace h := ifFunc_ok h
        rcases h with ⟨g, a, b, hv, h⟩ | h
        · rw [hv]
          exact ⟨_, rfl, h⟩
        · cases h
      · exact gen_ok (o := .call c) hc hF h
    · rename_i hcal
      split at hc
      · rename_i t x' ht hl
        split at hc
        · rename_i i hi
          split at hc
          · rename_i hk
            cases hc
            change (rdOf x').run F (fun v => v.ifStr (fun s => finN s.length fun n => (wrOf d).run (.int .i64 (.ofNat n)) F fun F => k F H) none) = some r at h
            rw [rd_eq] at h
            simp only [callX, compOpds_ok hF hl, hcal, builtinX, ht, List.map_cons, List.map_nil, lenA, hi, hk]
            replace h := ifStr_ok h
            rcases h with ⟨s, hv, h⟩ | h
            · rw [finN_eq] at h
              rw [hv]
              exact ⟨_, rfl, h⟩
            · cases h
          · rename_i e hk
            cases hc
            change (rdOf x').run F (fun v => v.ifSl (fun _ _ n _ => (wrOf d).run (.int .i64 (.ofNat n)) F fun F => k F H) ((wrOf d).run (.int .i64 (.ofNat 0)) F fun F => k F H) none) = some r at h
            rw [rd_eq] at h
            simp only [callX, compOpds_ok hF hl, hcal, builtinX, ht, List.map_cons, List.map_nil, lenA, hi, hk]
            replace h := ifSl_ok h
            rcases h with ⟨b, o, len, es, full, hv, h⟩ | ⟨hv, h⟩ | h
            · rw [hv]
              exact ⟨_, rfl, h⟩
            · rw [hv]
              exact ⟨_, rfl, h⟩
            · cases h
          · cases hc
        · cases hc
      · exact gen_ok (o := .call c) hc hF h
    · rename_i hcal
      split at hc
      · rename_i t u x' y' ht hl
        cases hc
        change (rdOf x').run F (fun a => (rdOf y').run F fun b => optK (appendA E t u a b H) fun r => finK (fun _ _ _ _ => none) (wrOf d).run F r k) = some r at h
        rw [rd_eq, rd_eq] at h
        obtain ⟨R, hR, h⟩ := optK_ok h
        simp only [callX, compOpds_ok hF hl, hcal, builtinX, ht, List.map_cons, List.map_nil]
        refine ⟨R, hR, ?_⟩
        cases R with
        | val v H' => exact h
        | skip H' => exact h
        | call f as H' => cases h
      · cases hc
    · exact gen_ok (o := .call c) hc hF h
  all_goals exact gen_ok hc hF h
end
end Go.Proofs.YtfcfliclmjikkaaGreatDoor.Ex
