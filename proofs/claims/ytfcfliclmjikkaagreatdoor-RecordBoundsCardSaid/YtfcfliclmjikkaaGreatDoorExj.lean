/- The plain runner's cuts, fields and elements. -/
import Derived.Test.YtfcfliclmjikkaaGreatDoorExi
namespace Go.Proofs.YtfcfliclmjikkaaGreatDoor.Ex
open Go
set_option linter.unusedVariables false
set_option linter.unusedSimpArgs false
section
variable {E : Env} {γ : Cx} {N : Nat} {H : AH} {w : World} {F : Fr} {a : Act}

theorem natOf_ok {x : AV} {n : Nat} {v : Value} (h : natOf x = some n) (hv : VR γ x v) : ∃ k, v = .int k (n : Int) := by
  unfold natOf at h
  split at h
  · rename_i k m
    cases hv
    cases m with
    | ofNat m => simp only [Option.some.injEq] at h; subst h; exact ⟨k, rfl⟩
    | negSucc m => cases h
  · cases h

theorem sliceBound_run {P : Program} {k : IntKind} {n y : Nat} {c : BoundsCode} (h : n ≤ y) : (Instr.sliceBound (.int k (n : Int)) y c).run P w = .ok n w := by
  have : 0 ≤ (n : Int) ∧ (n : Int) ≤ (y : Int) := by omega
  simp [Instr.sliceBound, asIntOf, this]

def VRo (γ : Cx) : Option AV → Option Value → Prop
  | none, none => True
  | some x, some v => VR γ x v
  | _, _ => False
theorem optA_ok (hF : FRel γ F a) {x : Option Operand} {o : Option AV} (h : optA F x = some o) : VRo γ o (x.map a.eval) := by
  cases x with
  | none => simp [optA] at h; subst h; trivial
  | some x =>
    simp only [optA] at h
    cases hx : opA F x with
    | none => simp [hx] at h
    | some v => simp [hx] at h; subst h; exact opA_ok hF hx

/-- The bounds of a cut, as the machine finds them. -/
theorem bounds_ok {P : Program} {len cap : Nat} (hc : len ≤ cap) {s : Bool} {lo hi mx : Option AV} {lo' hi' mx' : Option Value} (h1 : VRo γ lo lo') (h2 : VRo γ hi hi') (h3 : VRo γ mx mx') {l h m : Nat} (hb : boundsA len lo hi mx = some (l, h, m)) :
    ∃ m', (Instr.sliceBounds s len cap lo' hi' mx').run P w = .ok (l, h, m') w ∧ h ≤ m' ∧ m' ≤ cap ∧ l ≤ h ∧ h ≤ len ∧ (mx.isSome = true → m' = m) ∧ (mx.isSome = false → m' = cap) := by
  unfold boundsA at hb
  cases hm : orNat len mx with
  | none => simp [hm] at hb
  | some m0 =>
    cases hh : orNat len hi with
    | none => simp [hm, hh] at hb
    | some h0 =>
      cases hl : orNat 0 lo with
      | none => simp [hm, hh, hl] at hb
      | some l0 =>
        simp only [hm, hh, hl] at hb
        split at hb
        · rename_i hcond
          simp only [Option.some.injEq, Prod.mk.injEq] at hb
          obtain ⟨rfl, rfl, rfl⟩ := hb
          obtain ⟨c1, c2, c3, c4⟩ := hcond
          cases mx with
          | none =>
            cases mx' with
            | some _ => exact h3.elim
            | none =>
              simp only [orNat, Option.some.injEq] at hm
              subst hm
              cases hi with
              | none =>
                cases hi' with
                | some _ => exact h2.elim
                | none =>
                  simp only [orNat, Option.some.injEq] at hh
                  subst hh
                  cases lo with
                  | none =>
                    cases lo' with
                    | some _ => exact h1.elim
                    | none =>
                      simp only [orNat, Option.some.injEq] at hl
                      subst hl
                      exact ⟨cap, by simp [Instr.sliceBounds], hc, Nat.le_refl _, c3, Nat.le_refl _, by simp, by simp⟩
                  | some x =>
                    cases lo' with
                    | none => exact h1.elim
                    | some v =>
                      obtain ⟨k, rfl⟩ := natOf_ok hl h1
                      exact ⟨cap, by simp [Instr.sliceBounds, sliceBound_run c3], hc, Nat.le_refl _, c3, Nat.le_refl _, by simp, by simp⟩
              | some y =>
                cases hi' with
                | none => exact h2.elim
                | some hv =>
                  obtain ⟨k, rfl⟩ := natOf_ok hh h2
                  have q : h0 ≤ cap := by omega
                  cases lo with
                  | none =>
                    cases lo' with
                    | some _ => exact h1.elim
                    | none =>
                      simp only [orNat, Option.some.injEq] at hl
                      subst hl
                      exact ⟨cap, by simp [Instr.sliceBounds, sliceBound_run q], q, Nat.le_refl _, c3, c2, by simp, by simp⟩
                  | some x =>
                    cases lo' with
                    | none => exact h1.elim
                    | some v =>
                      obtain ⟨k, rfl⟩ := natOf_ok hl h1
                      exact ⟨cap, by simp [Instr.sliceBounds, sliceBound_run q, sliceBound_run c3], q, Nat.le_refl _, c3, c2, by simp, by simp⟩
          | some mv =>
            cases mx' with
            | none => exact h3.elim
            | some mv' =>
              obtain ⟨km, rfl⟩ := natOf_ok hm h3
              have qm : m0 ≤ cap := by omega
              cases hi with
              | none => simp at c4
              | some y =>
                cases hi' with
                | none => exact h2.elim
                | some hv =>
                  obtain ⟨k, rfl⟩ := natOf_ok hh h2
                  cases lo with
                  | none =>
                    cases lo' with
                    | some _ => exact h1.elim
                    | none =>
                      simp only [orNat, Option.some.injEq] at hl
                      subst hl
                      exact ⟨m0, by simp [Instr.sliceBounds, sliceBound_run qm, sliceBound_run c2], c2, qm, c3, by omega, by simp, by simp⟩
                  | some x =>
                    cases lo' with
                    | none => exact h1.elim
                    | some v =>
                      obtain ⟨k, rfl⟩ := natOf_ok hl h1
                      exact ⟨m0, by simp [Instr.sliceBounds, sliceBound_run qm, sliceBound_run c2, sliceBound_run c3], c2, qm, c3, by omega, by simp, by simp⟩
        · cases hb

theorem extract_ofList (s : List UInt8) (l h : Nat) : (⟨s.toArray⟩ : ByteArray).extract l h = ⟨((s.take h).drop l).toArray⟩ := by
  apply ByteArray.ext
  rw [ByteArray.data_extract]
  apply Array.ext'
  simp [Array.toList_extract, List.extract, List.drop_take]

theorem slice_ok (ok : TyOk E) (h : Rel E γ N H.bs.get w) (hF : FRel γ F a) {t : TypeId} {x : Operand} {lo hi mx : Option Operand} {r : R} (hr : sliceX E F t x lo hi mx H = some r) :
    Does E γ N H w (asNext (Instr.sliceAt t (a.eval x) (lo.map a.eval) (hi.map a.eval) (mx.map a.eval))) r := by
  unfold sliceX at hr
  cases hx : opA F x with
  | none => simp [hx] at hr
  | some u =>
    simp only [hx] at hr
    split at hr
    · rename_i l hh m hl hhi hmx
      obtain ⟨v, hv, rfl⟩ := vR_some hr
      have hp := opA_ok hF hx
      have o1 := optA_ok hF hl
      have o2 := optA_ok hF hhi
      have o3 := optA_ok hF hmx
      generalize a.eval x = xv at hp
      generalize lo.map a.eval = lo' at o1
      generalize hi.map a.eval = hi' at o2
      generalize mx.map a.eval = mx' at o3
      suffices ∃ v', (Instr.sliceAt t xv lo' hi' mx').run E.P w = .ok v' w ∧ VR γ v v' by
        obtain ⟨v', e1, e2⟩ := this
        exact does_val h (run_asNext e1) e2
      unfold sliceA at hv
      cases ht : E.ty.get t with
      | none => simp [ht] at hv
      | some i =>
        obtain ⟨info, d, h1, h2, rfl⟩ := tiOf_ok (ok.ty ht)
        simp only [ht] at hv
        split at hv
        · rename_i s hk
          obtain rfl := kind_str hk
          cases hp
          cases m with
          | some _ => simp at hv
          | none =>
            cases mx' with
            | some _ => exact o3.elim
            | none =>
              simp only at hv
              cases hb : boundsA s.length l hh none with
              | none => simp [hb] at hv
              | some q =>
                obtain ⟨l0, h0, m0⟩ := q
                simp only [hb, Option.some.injEq] at hv
                subst hv
                obtain ⟨m', b1, b2⟩ := bounds_ok (P := E.P) (w := w) (s := false) (Nat.le_refl _) o1 o2 o3 hb
                exact ⟨.string ⟨((s.take h0).drop l0).toArray⟩, by simp [Instr.sliceAt, Instr.slice, run_underlying h2, size_ofList, b1, extract_ofList], .str _⟩
        · rename_i e hk
          obtain rfl := kind_slice hk
          cases hp
          cases he : E.ty.get e with
          | none => simp [he] at hv
          | some ie =>
            obtain ⟨einfo, ed, g1, g2, rfl⟩ := tiOf_ok (ok.ty he)
            cases hb : boundsA 0 l hh m with
            | none => simp [he, hb] at hv
            | some q =>
              obtain ⟨l0, h0, m0⟩ := q
              simp only [he, hb, Option.some.injEq] at hv
              subst hv
              obtain ⟨m', b1, b2, b3, b4, b5, _⟩ := bounds_ok (P := E.P) (w := w) (s := true) (Nat.le_refl _) o1 o2 o3 hb
              obtain rfl : m' = 0 := by omega
              obtain rfl : h0 = 0 := by omega
              obtain rfl : l0 = 0 := by omega
              exact ⟨.slice none 0 0, by simp [Instr.sliceAt, Instr.slice, run_underlying h2, b1, sizeOf, typeInfo, g1], .nilslice⟩
        · rename_i e b o len es full hk
          obtain rfl := kind_slice hk
          cases he : E.ty.get e with
          | none => simp [he] at hv
          | some ie =>
            obtain ⟨einfo, ed, g1, g2, rfl⟩ := tiOf_ok (ok.ty he)
            simp only [he] at hv
            split at hv
            · rename_i hes
              subst hes
              cases hb : boundsA len l hh m with
              | none => simp [hb] at hv
              | some q =>
                obtain ⟨l0, h0, m0⟩ := q
                simp only [hb, Option.some.injEq] at hv
                subst hv
                cases hp with
                | slice hloc hlen hfull haddr hfit =>
                  rename_i β ω σ cap A
                  obtain ⟨m', b1, b2, b3, b4, b5, b6, b7⟩ := bounds_ok (P := E.P) (w := w) (s := true) hlen o1 o2 o3 hb
                  refine ⟨.slice (some (if m' = l0 then A else A.add (l0 * einfo.size))) (h0 - l0) (m' - l0), ?_, ?_⟩
                  · by_cases hml : m' = l0
                    · simp [Instr.sliceAt, Instr.slice, run_underlying h2, b1, sizeOf, typeInfo, g1, hml]
                    · simp [Instr.sliceAt, Instr.slice, run_underlying h2, b1, sizeOf, typeInfo, g1, hml]
                  · refine .slice hloc (by omega) ?_ ?_ ?_
                    · intro hf
                      cases hms : m.isSome
                      · simp only [hms, Bool.false_eq_true, if_false, Bool.and_eq_true, beq_iff_eq] at hf
                        have := hfull hf.1
                        have := b7 hms
                        omega
                      · simp only [hms, if_true, beq_iff_eq] at hf
                        have := b6 hms
                        omega
                    · intro hne
                      have hml : m' ≠ l0 := by omega
                      rw [if_neg hml, haddr (by omega), Addr.add_lit]
                      simp [Nat.add_assoc]
                    · have : l0 * einfo.size + (m' - l0) * einfo.size = m' * einfo.size := by rw [← Nat.add_mul]; congr 1; omega
                      have := Nat.mul_le_mul_right einfo.size b3
                      omega
            · cases hv
        · cases hv
    · cases hr
end
end Go.Proofs.YtfcfliclmjikkaaGreatDoor.Ex
