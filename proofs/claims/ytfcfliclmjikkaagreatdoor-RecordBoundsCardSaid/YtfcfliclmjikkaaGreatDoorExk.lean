/- The plain runner's fields, elements, and what it builds. -/
import Derived.Test.YtfcfliclmjikkaaGreatDoorExj
namespace Go.Proofs.YtfcfliclmjikkaaGreatDoor.Ex
open Go
set_option linter.unusedVariables false
set_option linter.unusedSimpArgs false
section
variable {E : Env} {γ : Cx} {N : Nat} {H : AH} {w : World} {F : Fr} {a : Act}

theorem fieldOf_ok (ok : TyOk E) {t : TypeId} {f q : Nat} {i : TI} (h : fieldOf E t f = some (q, i)) :
    ∃ fs fl info d, E.P.underlying t = some (.struct fs) ∧ fs[f]? = some fl ∧ fl.offset = q ∧ E.P.info? fl.type = some info ∧ E.P.underlying fl.type = some d ∧ info.size ≠ 0 ∧
      i = ⟨kindOf d, info.size, info.bytes, zeroOf E.P d info, plainEq E.P fl.type d⟩ := by
  unfold fieldOf at h
  cases ht : E.ty.get t with
  | none => simp [ht] at h
  | some j =>
    obtain ⟨info, d, h1, h2, rfl⟩ := tiOf_ok (ok.ty ht)
    simp only [ht] at h
    split at h
    · rename_i fs hk
      obtain ⟨fa, rfl, rfl⟩ := kind_struct hk
      split at h
      · rename_i o ft hf
        simp only [List.getElem?_map, Option.map_eq_some_iff, Prod.mk.injEq] at hf
        obtain ⟨fl, hfl, rfl, rfl⟩ := hf
        cases hg : E.ty.get fl.type with
        | none => simp [hg] at h
        | some j =>
          obtain ⟨finfo, fd, g1, g2, rfl⟩ := tiOf_ok (ok.ty hg)
          simp only [hg] at h
          split at h
          · cases h
          · rename_i hz
            simp only [Option.some.injEq, Prod.mk.injEq] at h
            exact ⟨fa, fl, finfo, fd, h2, by simpa using hfl, h.1, g1, g2, hz, h.2.symm⟩
      · cases h
    · cases h

theorem fieldAddr_ok (ok : TyOk E) (h : Rel E γ N H.bs.get w) (hF : FRel γ F a) {t : TypeId} {x : Operand} {f : Nat} {r : R} (hr : fieldAddrX E F t x f H = some r) :
    Does E γ N H w (asNext (Instr.fieldAt t (a.eval x) f)) r := by
  unfold fieldAddrX at hr
  cases hx : opA F x with
  | none => simp [hx] at hr
  | some u =>
    cases u <;> simp only [hx] at hr <;> try (cases hr; done)
    rename_i b off
    cases hf : fieldOf E t f with
    | none => simp [hf] at hr
    | some q =>
      obtain ⟨q, i⟩ := q
      simp only [hf, Option.some.injEq] at hr
      subst hr
      obtain ⟨fs, fl, info, d, e1, e2, e3, e4, e5, e6, _⟩ := fieldOf_ok ok hf
      have hp := opA_ok hF hx
      generalize a.eval x = xv at hp
      cases hp with
      | ptr hloc =>
        rename_i β ω σ
        subst e3
        refine does_val h (run_asNext (v := .pointer (some ⟨β, ω + (off + fl.offset), none⟩)) ?_) (.ptr hloc)
        simp [Instr.fieldAt, run_underlying e1, e2, Instr.sureAddr, fieldPlace, sizeOf, typeInfo, e4, e6, Addr.add_lit, Nat.add_assoc]

theorem field_ok (ok : TyOk E) (h : Rel E γ N H.bs.get w) (hF : FRel γ F a) {t : TypeId} {x : Operand} {f : Nat} {r : R} (hr : fieldX E F t x f H = some r) :
    Does E γ N H w (asNext (Instr.field t (a.eval x) f)) r := by
  unfold fieldX at hr
  cases hx : opA F x with
  | none => simp [hx] at hr
  | some u =>
    cases u <;> simp only [hx] at hr <;> try (cases hr; done)
    rename_i cs
    cases hf : fieldOf E t f with
    | none => simp [hf] at hr
    | some q =>
      obtain ⟨q, i⟩ := q
      simp only [hf] at hr
      obtain ⟨v, hv, rfl⟩ := vR_some hr
      obtain ⟨fs, fl, info, d, e1, e2, e3, e4, e5, e6, rfl⟩ := fieldOf_ok ok hf
      have hp := opA_ok hF hx
      generalize a.eval x = xv at hp
      cases hp with
      | agg hl =>
        subst e3
        obtain ⟨v', p1, p2⟩ := partA_ok (P := E.P) (w := w) e4 e5 hl hv
        exact does_val h (run_asNext (by simp [Instr.field, run_underlying e1, e2, asAgg, p1])) p2

theorem indexAddr_ok (ok : TyOk E) (h : Rel E γ N H.bs.get w) (hF : FRel γ F a) {t : TypeId} {x y : Operand} {r : R} (hr : indexAddrX E F t x y H = some r) :
    Does E γ N H w (asNext (Instr.indexAt t (a.eval x) (a.eval y))) r := by
  unfold indexAddrX at hr
  split at hr
  · rename_i i v j ht hx hy
    obtain ⟨info, d, h1, h2, rfl⟩ := tiOf_ok (ok.ty ht)
    have hp := opA_ok hF hx
    have hq := opA_ok hF hy
    generalize a.eval x = xv at hp
    generalize a.eval y = yv at hq
    split at hr
    · rename_i n e b off len es full hn hk
      obtain rfl := kind_slice hk
      cases he : E.ty.get e with
      | none => simp [he] at hr
      | some ie =>
        obtain ⟨einfo, ed, g1, g2, rfl⟩ := tiOf_ok (ok.ty he)
        simp only [he] at hr
        split at hr
        · rename_i hc
          obtain ⟨c1, rfl⟩ := hc
          simp only [Option.some.injEq] at hr
          subst hr
          obtain ⟨k, rfl⟩ := natOf_ok hn hq
          cases hp with
          | slice hloc hlen hfull haddr hfit =>
            rename_i β ω σ cap A
            obtain rfl := haddr (by omega)
            refine does_val h (run_asNext (v := .pointer (some ⟨β, ω + (off + n * einfo.size), none⟩)) ?_) (.ptr hloc)
            have : 0 ≤ (n : Int) ∧ (n : Int) < (len : Int) := by omega
            simp [Instr.indexAt, asIntOf, run_underlying h2, c1, Nat.not_le.2 c1, sizeOf, typeInfo, g1, Addr.add_lit, Nat.add_assoc]
        · cases hr
    · rename_i n len e b off hn hk
      obtain rfl := kind_array hk
      cases he : E.ty.get e with
      | none => simp [he] at hr
      | some ie =>
        obtain ⟨einfo, ed, g1, g2, rfl⟩ := tiOf_ok (ok.ty he)
        simp only [he] at hr
        split at hr
        · rename_i c1
          simp only [Option.some.injEq] at hr
          subst hr
          obtain ⟨k, rfl⟩ := natOf_ok hn hq
          cases hp with
          | ptr hloc =>
            rename_i β ω σ
            refine does_val h (run_asNext (v := .pointer (some ⟨β, ω + (off + n * einfo.size), none⟩)) ?_) (.ptr hloc)
            have : 0 ≤ (n : Int) ∧ (n : Int) < (len : Int) := by omega
            simp [Instr.indexAt, asIntOf, run_underlying h2, c1, Nat.not_le.2 c1, Instr.sureAddr, sizeOf, typeInfo, g1, Addr.add_lit, Nat.add_assoc]
        · cases hr
    · cases hr
  · cases hr

theorem getElem_ofList (s : List UInt8) (n : Nat) : (⟨s.toArray⟩ : ByteArray)[n]? = s[n]? := by
  by_cases h : n < s.length
  · rw [List.getElem?_eq_getElem h]
    rw [getElem?_pos (⟨s.toArray⟩ : ByteArray) n h]
    rfl
  · rw [List.getElem?_eq_none (by omega)]
    rw [getElem?_neg (⟨s.toArray⟩ : ByteArray) n h]

theorem index_ok (ok : TyOk E) (h : Rel E γ N H.bs.get w) (hF : FRel γ F a) {t : TypeId} {x y : Operand} {r : R} (hr : indexX E F t x y H = some r) :
    Does E γ N H w (asNext (Instr.index t (a.eval x) (a.eval y))) r := by
  unfold indexX at hr
  split at hr
  · rename_i i v j ht hx hy
    obtain ⟨info, d, h1, h2, rfl⟩ := tiOf_ok (ok.ty ht)
    have hp := opA_ok hF hx
    have hq := opA_ok hF hy
    generalize a.eval x = xv at hp
    generalize a.eval y = yv at hq
    split at hr
    · rename_i n s hn hk
      obtain rfl := kind_str hk
      cases hs : s[n]? with
      | none => simp [hs] at hr
      | some c =>
        simp only [hs, Option.some.injEq] at hr
        subst hr
        obtain ⟨k, rfl⟩ := natOf_ok hn hq
        cases hp
        refine does_val h (run_asNext (v := .int .u8 c.toNat) ?_) (.int _ _)
        have hz : (0 : Int) ≤ (n : Int) := by omega
        simp [Instr.index, asIntOf, run_underlying h2, hz, getElem_ofList, hs]
    · rename_i n len e cs hn hk
      obtain rfl := kind_array hk
      cases he : E.ty.get e with
      | none => simp [he] at hr
      | some ie =>
        obtain ⟨einfo, ed, g1, g2, rfl⟩ := tiOf_ok (ok.ty he)
        simp only [he] at hr
        split at hr
        · rename_i c1
          obtain ⟨v, hv, rfl⟩ := vR_some hr
          obtain ⟨k, rfl⟩ := natOf_ok hn hq
          cases hp with
          | agg hl =>
            obtain ⟨v', p1, p2⟩ := partA_ok (P := E.P) (w := w) g1 g2 hl hv
            have : 0 ≤ (n : Int) ∧ (n : Int) < (len : Int) := by omega
            exact does_val h (run_asNext (by simp [Instr.index, asIntOf, run_underlying h2, c1, Nat.not_le.2 c1, sizeOf, typeInfo, g1, p1])) p2
        · cases hr
    · cases hr
  · cases hr

/-! ### What is built -/
theorem partsA_ok (hF : FRel γ F a) : ∀ {l : List (Nat × Operand)} {ps : List (Nat × AV)}, partsA F l = some ps → ps.length = l.length ∧ ∀ (i : Nat) p, ps[i]? = some p → ∃ x, l[i]? = some (p.1, x) ∧ VR γ p.2 (a.eval x)
  | [], ps, h => by simp [partsA] at h; subst h; simp
  | (j, x) :: l, ps, h => by
    simp only [partsA] at h
    cases hx : opA F x with
    | none => simp [hx] at h
    | some v =>
      cases hr : partsA F l with
      | none => simp [hx, hr] at h
      | some r =>
        simp only [hx, hr, Option.some.injEq] at h
        subst h
        obtain ⟨e1, e2⟩ := partsA_ok hF hr
        refine ⟨by simp [e1], fun i p hp => ?_⟩
        cases i with
        | zero => simp at hp; subst hp; exact ⟨x, rfl, opA_ok hF hx⟩
        | succ i => simpa using e2 i p (by simpa using hp)

/-- Parts laid over cells, one behind the other. -/
theorem setAll_eq : ∀ (v : List Value) (cs : Array Value) (off k : Nat), off + k + v.length ≤ cs.size →
    ((v.zipIdx k).foldl (fun (c : Array Value) (x : Value × Nat) => c.setIfInBounds (off + x.2) x.1) cs).toList = cs.toList.take (off + k) ++ v ++ cs.toList.drop (off + k + v.length)
  | [], cs, off, k, h => by simp
  | u :: v, cs, off, k, h => by
    simp only [List.zipIdx_cons, List.foldl_cons]
    simp only [List.length_cons] at h
    rw [setAll_eq v _ off (k + 1) (by simp; omega)]
    simp only [Array.toList_setIfInBounds, List.length_cons]
    have hlt : off + k < cs.toList.length := by simp; omega
    rw [List.take_set, List.drop_set_of_lt (by omega)]
    have : off + (k + 1) = off + k + 1 := by omega
    rw [this, List.take_succ_eq_append_getElem hlt]
    rw [List.set_append_right _ _ (by simp; omega)]
    simp [Nat.min_eq_left (Nat.le_of_lt hlt), List.append_assoc]
    rw [Nat.min_eq_left (by simpa using Nat.le_of_lt hlt)]
    simp
    congr 1
    omega

theorem fill_ok {place : Nat → Option (Nat × Nat)} : ∀ {l : List (Nat × List AV)} {ps : List (Nat × Value)} {z cs : List AV} {z' : Array Value}, fillA z l = some cs → VRs γ z z'.toList → l.length = ps.length →
    (∀ (i : Nat) p q, l[i]? = some p → ps[i]? = some q → place q.1 = some (p.1, p.2.length) ∧ VRs γ p.2 q.2.cells.toList) → ∃ cs', Instr.fill place z' ps = some cs' ∧ VRs γ cs cs'.toList
  | [], [], z, cs, z', h, hz, _, _ => by simp [fillA] at h; subst h; exact ⟨z', rfl, hz⟩
  | (o, v) :: l, (j, u) :: ps, z, cs, z', h, hz, hlen, hp => by
    obtain ⟨p1, p2⟩ := hp 0 _ _ rfl rfl
    simp only at p1 p2
    simp only [fillA] at h
    split at h
    · rename_i hfit
      have l1 := hz.length
      have l2 := p2.length
      have e1 : u.cells.size = v.length := by simp [l2]
      have e2 : z'.size = z.length := by simp [l1]
      have hstep := setAll_eq u.cells.toList z' o 0 (by simp; omega)
      simp only [Nat.add_zero] at hstep
      have hz2 : VRs γ (z.take o ++ v ++ z.drop (o + v.length)) ((u.cells.toList.zipIdx 0).foldl (fun (c : Array Value) (x : Value × Nat) => c.setIfInBounds (o + x.2) x.1) z').toList := by
        rw [hstep]
        have : u.cells.toList.length = v.length := l2.symm
        rw [this]
        exact ((hz.take o).append p2).append (hz.drop _)
      obtain ⟨cs', c1, c2⟩ := fill_ok h hz2 (by simpa using hlen) (fun i p q hp' hq' => hp (i + 1) p q (by simpa using hp') (by simpa using hq'))
      refine ⟨cs', ?_, c2⟩
      have : ¬ (u.cells.size ≠ v.length ∨ o + u.cells.size > z'.size) := by omega
      simp only [Instr.fill, p1, e1, ne_eq, not_true_eq_false, decide_false, Bool.false_or, decide_eq_true_eq]
      rw [if_neg (by omega)]
      rw [← c1]
      congr 1
      rw [← Array.foldl_toList, Array.toList_zipIdx]
    · cases h
end
end Go.Proofs.YtfcfliclmjikkaaGreatDoor.Ex
