/- The plain runner's comparisons, and its operations of one and of two values. -/
import Derived.Test.YtfcfliclmjikkaaGreatDoorExg
namespace Go.Proofs.YtfcfliclmjikkaaGreatDoor.Ex
open Go
set_option linter.unusedVariables false
set_option linter.unusedSimpArgs false
section
variable {E : Env} {γ : Cx} {w : World}

theorem partA_ok {P : Program} {t : TypeId} {info : TypeInfo} {d : TypeDesc} {z : Option (List AV)} {q : Bool} {b : Nat} (h1 : P.info? t = some info) (h2 : P.underlying t = some d) {cs : List AV} {cs' : Array Value} (hc : VRs γ cs cs'.toList) {o : Nat} {v : AV}
    (h : partA ⟨kindOf d, info.size, b, z, q⟩ cs o = some v) : ∃ v', (part t cs' o).run P w = .ok v' w ∧ VR γ v v' := by
  unfold partA at h
  simp only at h
  split at h
  · rename_i hagg
    simp only [Option.some.injEq] at h
    subst h
    refine ⟨.agg (cs'.extract o (o + info.size)), by simp [part, isAgg_run h2, hagg, sizeOf, typeInfo, h1], .agg ?_⟩
    have := (hc.drop o).take info.size
    have e : (cs'.extract o (o + info.size)).toList = (cs'.toList.drop o).take info.size := by
      simp [Array.toList_extract, List.extract]
    rw [e]
    exact this
  · rename_i hagg
    have hagg' : (kindOf d).isAgg = false := by simpa using hagg
    obtain ⟨v', e1, e2⟩ := hc.get o h
    have e1' : cs'[o]? = some v' := by simpa using e1
    exact ⟨v', by simp [part, isAgg_run h2, hagg', e1'], e2⟩

theorem eqLeaf_ok {P : Program} {t : TypeId} {d : TypeDesc} (h2 : P.underlying t = some d) {x y : AV} {x' y' : Value} (hx : VR γ x x') (hy : VR γ y y') {b : Bool} (h : eqLeaf (kindOf d) x y = some b) (n : Nat) :
    (Op.equalIn (n + 1) t x' y').run P w = .ok b w ∧ ∀ (op : BinOp) (xo yo : Operand), (eqGuard op t xo yo x' y').run P w = .ok () w := by
  generalize hkd : kindOf d = kd at h
  unfold eqLeaf at h
  split at h
  case h_15 => cases h
  case h_2 =>
    split at h
    · rename_i hk
      simp only [Option.some.injEq] at h; subst h hk
      cases hx; cases hy
      cases d <;> simp [kindOf] at hkd
      exact ⟨by simp [Op.equalIn, run_underlying h2], fun op xo yo => by cases op <;> simp [eqGuard]⟩
    · cases h
  all_goals
    simp only [Option.some.injEq] at h; subst h
    cases hx; cases hy
    cases d <;> simp [kindOf] at hkd
    exact ⟨by simp [Op.equalIn, run_underlying h2, beq_toListBytes, toList_ofList], fun op xo yo => by cases op <;> simp [eqGuard]⟩

theorem eqLin_ok {P : Program} (hs : SymOk E γ) {t : TypeId} {d : TypeDesc} (h2 : P.underlying t = some d) {x y : AV} {x' y' : Value} (hx : VR γ x x') (hy : VR γ y y') {b : Bool} (h : eqLin E (kindOf d) x y = some b) (n : Nat) :
    (Op.equalIn (n + 1) t x' y').run P w = .ok b w ∧ ∀ (op : BinOp) (xo yo : Operand), (eqGuard op t xo yo x' y').run P w = .ok () w := by
  unfold eqLin at h
  split at h
  · rename_i k0 hk0
    obtain rfl := kind_int hk0
    split at h
    · rename_i k p hp
      split at h
      · rename_i k' q hq
        split at h
        · rename_i hkk
          subst hkk
          split at h
          · rename_i z hz
            split at h
            · rename_i lo hi hr
              obtain ⟨r1, r2⟩ := Lin.range_ok hs hr
              have e1 := linOf_ok hp hx
              have e2 := linOf_ok hq hy
              have hz' := Lin.add_ok (γ := γ) hz
              rw [Lin.neg_ok] at hz'
              have hc := cmpR_ok h r1 r2 hz'
              simp only [cmpI, Option.some.injEq] at hc
              subst e1 e2
              refine ⟨by simp [Op.equalIn, run_underlying h2, hc], fun op xo yo => eqGuard_int⟩
            · cases h
          · cases h
        · cases h
      · cases h
    · cases h
  · cases h
theorem eqT_ok (ok : TyOk E) (hs : SymOk E γ) : ∀ (n : Nat) {t : TypeId} {x y : AV} {x' y' : Value} {b : Bool}, eqT E n t x y = some b → VR γ x x' → VR γ y y' → ∀ d, n ≤ d →
    (Op.equalIn d t x' y').run E.P w = .ok b w ∧ ∀ (op : BinOp) (xo yo : Operand), (eqGuard op t xo yo x' y').run E.P w = .ok () w
  | 0, _, _, _, _, _, _, h, _, _, _, _ => by simp [eqT] at h
  | n + 1, t, x, y, x', y', b, h, hx, hy, d, hd => by
    obtain ⟨d, rfl⟩ : ∃ d', d = d' + 1 := ⟨d - 1, by omega⟩
    unfold eqT at h
    cases ht : E.ty.get t with
    | none => simp [ht] at h
    | some i =>
      obtain ⟨info, dd, h1, h2, rfl⟩ := tiOf_ok (ok.ty ht)
      simp only [ht] at h
      split at h
      · rename_i fs l r hk
        obtain ⟨f, rfl, rfl⟩ := kind_struct hk
        split at h
        · rename_i heq
          simp only [plainEq, Bool.and_eq_true, Bool.not_eq_true'] at heq
          obtain ⟨⟨q1, q2⟩, q3⟩ := heq
          cases hx with
          | agg hl =>
            cases hy with
            | agg hr =>
              rename_i l' r'
              have hfo : E.P.fieldsOf t = f := by simp [Program.fieldsOf, h2]
              refine ⟨?_, fun op xo yo => by cases op <;> simp [eqGuard, q1]⟩
              rw [run_equalIn_struct w d t l' r' (by rw [hfo]; exact h2) q2, hfo]
              clear hk h2 h1 ht hfo
              generalize f.toList = fl at h q3
              clear q1 q2
              induction fl with
              | nil =>
                simp only [List.map_nil, eqT.eqF, Option.some.injEq] at h
                subst h
                simp [Op.eqFields]
              | cons g fl ih =>
                simp only [List.map_cons, eqT.eqF] at h
                simp only [List.all_cons, Bool.and_eq_true, bne_iff_ne, ne_eq] at q3
                cases hg : E.ty.get g.type with
                | none => simp [hg] at h
                | some j =>
                  obtain ⟨ginfo, gd, g1, g2, rfl⟩ := tiOf_ok (ok.ty hg)
                  simp only [hg] at h
                  split at h
                  · rename_i a c ha hc
                    obtain ⟨a', a1, a2⟩ := partA_ok (w := w) g1 g2 hl ha
                    obtain ⟨c', c1, c2⟩ := partA_ok (w := w) g1 g2 hr hc
                    split at h
                    · rename_i he
                      have := (eqT_ok ok hs n he a2 c2 d (by omega)).1
                      simp only [Op.eqFields, q3.1, ne_eq, not_false_eq_true, if_true, Sem.run_bind, a1, c1, Result.andThen_ok, this, Bool.not_true, Bool.false_eq_true, if_false]
                      exact ih h (by simpa using q3.2)
                    · rename_i hne
                      cases b with
                      | true => exact absurd h (hne)
                      | false =>
                        have := (eqT_ok ok hs n h a2 c2 d (by omega)).1
                        simp [Op.eqFields, q3.1, a1, c1, this]
                  · cases h
        · cases h
      · rename_i t1 v1 t2 v2 hk
        cases hx with
        | iface hx1 =>
          cases hy with
          | iface hy1 =>
            obtain ⟨ms, rfl⟩ := kind_iface hk
            refine ⟨?_, fun op xo yo => by cases op <;> simp [eqGuard]⟩
            split at h
            · rename_i hne
              simp only [Option.some.injEq] at h
              subst h
              have hne := Nat.ne_of_beq_eq_false hne
              simp [Op.equalIn, run_underlying h2, hne]
            · rename_i heq
              have heq := Nat.eq_of_beq_eq_true heq
              subst heq
              split at h
              · rename_i j hj
                obtain ⟨jinfo, jd, j1, j2, rfl⟩ := tiOf_ok (ok.ty hj)
                cases hc : (!(TK.isAgg (kindOf jd)) && plainEq E.P t1 jd) with
                | false => rw [hc] at h; cases h
                | true =>
                  rw [hc] at h
                  rw [Bool.and_eq_true] at hc
                  have hcmp : jinfo.comparable = true := by
                    obtain ⟨c1, c2⟩ := hc
                    cases jd <;> first | (simp [kindOf, TK.isAgg] at c1; done) | (simpa [plainEq, j1] using c2)
                  have := (eqT_ok ok hs n h hx1 hy1 d (by omega)).1
                  simp [Op.equalIn, run_underlying h2, typeInfo, j1, hcmp, this]
              · cases h
      · split at h
        · rename_i b' hb'
          simp only [Option.some.injEq] at h
          subst h
          exact eqLeaf_ok h2 hx hy hb' d
        · exact eqLin_ok hs h2 hx hy h d

end
end Go.Proofs.YtfcfliclmjikkaaGreatDoor.Ex
