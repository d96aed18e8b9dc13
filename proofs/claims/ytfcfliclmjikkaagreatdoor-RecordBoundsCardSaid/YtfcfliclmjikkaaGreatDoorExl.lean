/- The plain runner's structs, rows and conversions. -/
import Derived.Test.YtfcfliclmjikkaaGreatDoorExk
namespace Go.Proofs.YtfcfliclmjikkaaGreatDoor.Ex
open Go
set_option linter.unusedVariables false
set_option linter.unusedSimpArgs false
section
variable {E : Env} {γ : Cx} {N : Nat} {H : AH} {w : World} {F : Fr} {a : Act}

theorem placeA_ok (ok : TyOk E) {fs : List (Nat × TypeId)} : ∀ {ps : List (Nat × AV)} {l : List (Nat × List AV)}, placeA E fs ps = some l → l.length = ps.length ∧
    ∀ (i : Nat) p, l[i]? = some p → ∃ q ft, ps[i]? = some q ∧ fs[q.1]? = some (p.1, ft) ∧ p.2 = q.2.cells ∧ ∃ info, E.P.info? ft = some info ∧ p.2.length = info.size
  | [], l, h => by simp [placeA] at h; subst h; simp
  | (j, v) :: ps, l, h => by
    simp only [placeA] at h
    split at h
    · rename_i o ft hf
      cases hg : E.ty.get ft with
      | none => simp [hg] at h
      | some i =>
        obtain ⟨info, d, h1, h2, rfl⟩ := tiOf_ok (ok.ty hg)
        simp only [hg] at h
        split at h
        · rename_i hsz
          cases hr : placeA E fs ps with
          | none => simp [hr] at h
          | some r =>
            simp only [hr, Option.some.injEq] at h
            subst h
            obtain ⟨e1, e2⟩ := placeA_ok ok hr
            refine ⟨by simp [e1], fun i p hp => ?_⟩
            cases i with
            | zero => simp at hp; subst hp; exact ⟨(j, v), ft, rfl, hf, rfl, info, h1, hsz⟩
            | succ i => simpa using e2 i p (by simpa using hp)
        · cases h
    · cases h
theorem placeS_ok {size : Nat} : ∀ {ps : List (Nat × AV)} {l : List (Nat × List AV)}, placeS size ps = some l → l.length = ps.length ∧
    ∀ (i : Nat) p, l[i]? = some p → ∃ q, ps[i]? = some q ∧ p.1 = q.1 * size ∧ p.2 = q.2.cells ∧ p.2.length = size
  | [], l, h => by simp [placeS] at h; subst h; simp
  | (j, v) :: ps, l, h => by
    simp only [placeS] at h
    split at h
    · rename_i hsz
      cases hr : placeS size ps with
      | none => simp [hr] at h
      | some r =>
        simp only [hr, Option.some.injEq] at h
        subst h
        obtain ⟨e1, e2⟩ := placeS_ok hr
        refine ⟨by simp [e1], fun i p hp => ?_⟩
        cases i with
        | zero => simp at hp; subst hp; exact ⟨(j, v), rfl, rfl, rfl, hsz⟩
        | succ i => simpa using e2 i p (by simpa using hp)
    · cases h

theorem cells_of {x : AV} {v : Value} (h : VR γ x v) : VRs γ x.cells v.cells.toList := by
  cases h <;> first | (exact .cons (by constructor <;> assumption) .nil) | assumption | (exact .cons (by constructor) .nil) | skip
  case opq i e =>
    have : (γ.opq i).cells = #[γ.opq i] := by
      generalize γ.opq i = u at e
      cases u <;> first | rfl | (simp [Value.oneCell'] at e)
    rw [this]
    exact .cons (.opq i e) .nil

theorem mapM_places {P : Program} : ∀ (fs : List Field), (fs.all fun f => (P.info? f.type).isSome) = true →
    ∃ places, fs.mapM (fun f => (P.info? f.type).map fun i => (f.offset, i.size)) = some places ∧ ∀ (j : Nat) f info, fs[j]? = some f → P.info? f.type = some info → places[j]? = some (f.offset, info.size)
  | [], _ => ⟨[], by simp, by simp⟩
  | f :: fs, h => by
    simp only [List.all_cons, Bool.and_eq_true] at h
    obtain ⟨info, hi⟩ := Option.isSome_iff_exists.1 h.1
    obtain ⟨pl, h1, h2⟩ := mapM_places fs h.2
    refine ⟨(f.offset, info.size) :: pl, by simp [hi, h1], fun j g ginfo hj hg => ?_⟩
    cases j with
    | zero => simp at hj; subst hj; rw [hi] at hg; simp only [Option.some.injEq] at hg; subst hg; rfl
    | succ j => simpa using h2 j g ginfo (by simpa using hj) hg

theorem build_ok (ok : TyOk E) (h : Rel E γ N H.bs.get w) (hF : FRel γ F a) {t : TypeId} {parts : Array (Nat × Operand)} {r : R} (hr : buildX E F t parts.toList H = some r) :
    Does E γ N H w (asNext (Instr.build t (parts.map fun (i, x) => (i, a.eval x)))) r := by
  unfold buildX at hr
  cases ht : E.ty.get t with
  | none => simp [ht] at hr
  | some i =>
    obtain ⟨info, d, h1, h2, rfl⟩ := tiOf_ok (ok.ty ht)
    simp only [ht] at hr
    cases hz : zeroOf E.P d info with
    | none => simp [hz] at hr
    | some z =>
      obtain ⟨hfl, zv, hz1, hz2⟩ := zeroOf_ok hz
      cases hps : partsA F parts.toList with
      | none => simp [hz, hps] at hr
      | some ps =>
        obtain ⟨pl, pg⟩ := partsA_ok hF hps
        simp only [hz, hps] at hr
        have hpt : (parts.map fun (i, x) => (i, a.eval x)).toList = parts.toList.map fun (i, x) => (i, a.eval x) := by simp
        have fin : ∀ {l : List (Nat × List AV)} {place : Nat → Option (Nat × Nat)}, fillR H z (some l) = some r → l.length = ps.length →
            (∀ (i : Nat) p q, l[i]? = some p → ps[i]? = some q → place q.1 = some (p.1, p.2.length) ∧ p.2 = q.2.cells) →
            ∃ cs cs', r = .val (.agg cs) H ∧ Instr.fill place zv.cells (parts.map fun (i, x) => (i, a.eval x)).toList = some cs' ∧ VRs γ cs cs'.toList := fun {l place} hfr hlen hpl => by
          unfold fillR at hfr
          simp only at hfr
          cases hfa : fillA z l with
          | none => simp [hfa] at hfr
          | some cs =>
            simp only [hfa, Option.some.injEq] at hfr
            rw [hpt]
            obtain ⟨cs', c1, c2⟩ := fill_ok (place := place) (ps := parts.toList.map fun (i, x) => (i, a.eval x)) hfa (absCells_ok hz2) (by simp [hlen, pl]) (fun i p q hp hq => by
              simp only [List.getElem?_map, Option.map_eq_some_iff] at hq
              obtain ⟨⟨j, x⟩, hx, rfl⟩ := hq
              obtain ⟨q', hq'⟩ : ∃ q', ps[i]? = some q' := by
                have := (List.getElem?_eq_some_iff.1 hx).1
                exact ⟨ps[i]'(by omega), by simp⟩
              obtain ⟨x', g1, g2⟩ := pg i q' hq'
              rw [hx] at g1
              simp only [Option.some.injEq, Prod.mk.injEq] at g1
              obtain ⟨rfl, rfl⟩ := g1
              obtain ⟨k1, k2⟩ := hpl i p q' hp hq'
              refine ⟨k1, ?_⟩
              rw [k2]
              exact cells_of g2)
            exact ⟨cs, cs', hfr.symm, c1, c2⟩
        split at hr
        · rename_i fs hk
          obtain ⟨f, rfl, rfl⟩ := kind_struct hk
          split at hr
          · obtain ⟨places, m1, m2⟩ := mapM_places f.toList (by simpa [fldsOk] using hfl)
            cases hpa : placeA E (f.toList.map fun x => (x.offset, x.type)) ps with
            | none => rw [hpa] at hr; simp [fillR] at hr
            | some l =>
              rw [hpa] at hr
              obtain ⟨e1, e2⟩ := placeA_ok ok hpa
              obtain ⟨cs, cs', rfl, c1, c2⟩ := fin (place := (places.toArray[·]?)) hr e1 (fun i p q hp hq => by
                obtain ⟨q', ft, k1, k2, k3, info', k4, k5⟩ := e2 i p hp
                rw [hq] at k1
                simp only [Option.some.injEq] at k1
                subst k1
                simp only [List.getElem?_map, Option.map_eq_some_iff, Prod.mk.injEq] at k2
                obtain ⟨fl, j1, j2, rfl⟩ := k2
                refine ⟨?_, k3⟩
                have := m2 q.1 fl info' j1 k4
                simp only [List.getElem?_toArray]
                rw [this, j2, k5])
              exact does_val h (run_asNext (run_build w t _ cs' (by simp only [Program.built, h1, h2, hz1, m1]; exact c1))) (.agg c2)
          · cases hr
        · rename_i n e hk
          obtain rfl := kind_array hk
          cases he : E.ty.get e with
          | none => simp [he] at hr
          | some ie =>
            obtain ⟨einfo, ed, g1, g2, rfl⟩ := tiOf_ok (ok.ty he)
            simp only [he] at hr
            cases hpa : placeS einfo.size ps with
            | none => rw [hpa] at hr; simp [fillR] at hr
            | some l =>
              rw [hpa] at hr
              obtain ⟨e1, e2⟩ := placeS_ok hpa
              obtain ⟨cs, cs', rfl, c1, c2⟩ := fin (place := fun i => some (i * einfo.size, einfo.size)) hr e1 (fun i p q hp hq => by
                obtain ⟨q', k1, k2, k3, k4⟩ := e2 i p hp
                rw [hq] at k1
                simp only [Option.some.injEq] at k1
                subst k1
                exact ⟨by rw [k2, k4], k3⟩)
              exact does_val h (run_asNext (run_build w t _ cs' (by simp only [Program.built, h1, h2, hz1, g1]; exact c1))) (.agg c2)
        · cases hr

theorem replA_len (z : List AV) : ∀ n : Nat, (replA z n).length = n * z.length
  | 0 => by simp [replA]
  | n + 1 => by simp [replA, replA_len z n, Nat.add_mul]; omega
theorem replA_get (z : List AV) : ∀ (n i : Nat), i < n * z.length → (replA z n)[i]? = z[i % z.length]?
  | 0, i, h => by omega
  | n + 1, i, h => by
    simp only [replA]
    by_cases hi : i < z.length
    · rw [List.getElem?_append_left hi, Nat.mod_eq_of_lt hi]
    · rw [List.getElem?_append_right (by omega), replA_get z n (i - z.length) (by rw [Nat.add_mul] at h; omega)]
      congr 1
      rw [Nat.mod_eq_sub_mod (a := i) (by omega)]
theorem repl_ok {z : List AV} {zv : Array Value} (hz : VRs γ z zv.toList) (n : Nat) : VRs γ (replA z n) (madeCells zv (n * zv.size)).toList := by
  have hl := hz.length
  simp only [Array.length_toList] at hl
  refine VRs.of_get (by simp [replA_len, madeCells, hl]) (fun i x y hx hy => ?_)
  have hi : i < n * z.length := by
    have := (List.getElem?_eq_some_iff.1 hx).1
    rwa [replA_len] at this
  have hpos : 0 < z.length := by
    rcases Nat.eq_zero_or_pos z.length with h0 | h0
    · rw [h0] at hi; omega
    · exact h0
  rw [replA_get z n i hi] at hx
  obtain ⟨v, h1, h2⟩ := hz.get _ hx
  have h1' : zv[i % zv.size]? = some v := by rw [← hl]; simpa using h1
  have : y = v := by
    simp only [madeCells, Array.toList_map, List.getElem?_map, Option.map_eq_some_iff] at hy
    obtain ⟨j, j1, j2⟩ := hy
    have : j = i := by
      rw [Array.toList_range, List.getElem?_range (by rw [← hl]; exact hi)] at j1
      simpa using j1.symm
    subst this
    rw [← j2]
    rw [getElem!_pos zv _ (by rw [← hl]; exact Nat.mod_lt _ hpos)]
    have := h1'
    rw [Array.getElem?_eq_getElem (by rw [← hl]; exact Nat.mod_lt _ hpos)] at this
    simpa using this
  subst this
  exact h2

theorem does_row (h : Rel E γ N H.bs.get w) (hN : N ≤ w.heap.size) {H' : AH} {l : List AV} (hn : H.new l = some H') (hf : ∀ id, H.n ≤ id → id < H'.n → γ.loc id = none) {T : TypeId} {cs : Array Value} {n es : Nat}
    {s : Sem Value} (hs : s.run E.P w = .ok (.slice (some ⟨w.heap.size, 0, none⟩) n n) (w.alloc (.cells cs T))) (hv : VRs γ l cs.toList) (hsz : cs.size = n * es) :
    Does E γ N H w (asNext s) (.val (.slice H.n 0 n es true) H') := by
  refine does_new h hN hn hf (vs := cs.toList) (cs := cs) (T := T) (fz := (0, 0)) (run_asNext hs) rfl (fun i hi => by simp) hv (by simp) (fun i hi => by simp) ?_
  exact .slice (Cx.bind_same _ _ _) (Nat.le_refl _) (fun _ => rfl) (fun _ => by simp) (by simp [hsz])

theorem buildSlice_ok (ok : TyOk E) (h : Rel E γ N H.bs.get w) (hN : N ≤ w.heap.size) (hF : FRel γ F a) {t : TypeId} {len : Nat} {parts : Array (Nat × Operand)} {r : R} (hr : buildSliceX E F t len parts.toList H = some r)
    (hf : ∀ id, H.n ≤ id → id < r.n → γ.loc id = none) {parts' : Array (Nat × Value)} (hpt : parts'.toList = parts.toList.map fun (i, x) => (i, a.eval x)) : Does E γ N H w (asNext (Instr.buildSlice t len parts')) r := by
  unfold buildSliceX at hr
  cases ht : E.ty.get t with
  | none => simp [ht] at hr
  | some i =>
    obtain ⟨info, d, h1, h2, rfl⟩ := tiOf_ok (ok.ty ht)
    simp only [ht] at hr
    split at hr
    · rename_i e hk
      obtain rfl := kind_slice hk
      cases he : E.ty.get e with
      | none => simp [he] at hr
      | some ie =>
        obtain ⟨einfo, ed, g1, g2, rfl⟩ := tiOf_ok (ok.ty he)
        simp only [he] at hr
        cases hz : zeroOf E.P ed einfo with
        | none => simp [hz] at hr
        | some z =>
          obtain ⟨hfl, zv, hz1, hz2⟩ := zeroOf_ok hz
          cases hps : partsA F parts.toList with
          | none => simp [hz, hps] at hr
          | some ps =>
            obtain ⟨pl, pg⟩ := partsA_ok hF hps
            simp only [hz, hps] at hr
            split at hr
            · rename_i hc
              obtain ⟨hzl, hbig⟩ := hc
              cases hpa : placeS einfo.size ps with
              | none => simp [hpa] at hr
              | some l =>
                simp only [hpa] at hr
                cases hfa : fillA (replA z len) l with
                | none => simp [hfa] at hr
                | some cs =>
                  simp only [hfa] at hr
                  obtain ⟨H', hn, rfl⟩ := newR_some hr
                  obtain ⟨e1, e2⟩ := placeS_ok hpa
                  have hzc := absCells_ok (γ := γ) hz2
                  have hzs : zv.cells.size = einfo.size := by have := hzc.length; simp only [Array.length_toList] at this; omega
                  have hrep := repl_ok hzc len
                  rw [hzs] at hrep
                  obtain ⟨cs', c1, c2⟩ := fill_ok (place := fun i => some (i * einfo.size, einfo.size)) (ps := parts.toList.map fun (i, x) => (i, a.eval x)) hfa hrep (by simp [e1, pl]) (fun i p q hp hq => by
                    simp only [List.getElem?_map, Option.map_eq_some_iff] at hq
                    obtain ⟨⟨j, x⟩, hx, rfl⟩ := hq
                    obtain ⟨q', k1, k2, k3, k4⟩ := e2 i p hp
                    obtain ⟨x', g1, g2⟩ := pg i q' k1
                    rw [hx] at g1
                    simp only [Option.some.injEq, Prod.mk.injEq] at g1
                    obtain ⟨rfl, rfl⟩ := g1
                    refine ⟨by rw [k2, k4], ?_⟩
                    rw [k3]
                    exact cells_of g2)
                  have hsz : cs'.size = len * einfo.size := by
                    have hl : cs.length = len * einfo.size := by
                      have : ∀ (l : List (Nat × List AV)) (z cs : List AV), fillA z l = some cs → cs.length = z.length := by
                        intro l
                        induction l with
                        | nil => intro z cs h; simp [fillA] at h; subst h; rfl
                        | cons p l ih =>
                          intro z cs h
                          obtain ⟨o, v⟩ := p
                          simp only [fillA] at h
                          split at h
                          · rw [ih _ _ h]; simp; omega
                          · cases h
                      rw [this _ _ _ hfa, replA_len, hzl]
                    have := c2.length
                    simp only [Array.length_toList] at this
                    omega
                  refine does_row h hN hn hf (T := e) (cs := cs') ?_ c2 hsz
                  have hbig' : ¬ (16777216 < len * einfo.size) := by omega
                  rw [← hpt] at c1
                  by_cases h0 : len * einfo.size = 0
                  · have hm : madeCells zv.cells (len * einfo.size) = #[] := by simp [madeCells, h0]
                    rw [hm] at c1
                    simp [Instr.buildSlice, run_underlying h2, sizeOf, typeInfo, g1, h0, newRow, Array.range_zero', c1]
                  · simp only [madeCells] at c1
                    simp [Instr.buildSlice, run_underlying h2, sizeOf, typeInfo, zeroValue, g1, hz1, hbig', h0, newRow, c1]
            · cases hr
    · cases hr

theorem makeSlice_ok (ok : TyOk E) (h : Rel E γ N H.bs.get w) (hN : N ≤ w.heap.size) (hF : FRel γ F a) {t : TypeId} {x y : Operand} {r : R} (hr : makeSliceX E F t x y H = some r)
    (hf : ∀ id, H.n ≤ id → id < r.n → γ.loc id = none) : Does E γ N H w (asNext (Instr.makeSlice t (a.eval x) (a.eval y))) r := by
  unfold makeSliceX at hr
  cases ht : E.ty.get t with
  | none => simp [ht] at hr
  | some i =>
    obtain ⟨info, d, h1, h2, rfl⟩ := tiOf_ok (ok.ty ht)
    simp only [ht] at hr
    split at hr
    · rename_i e hk
      obtain rfl := kind_slice hk
      split at hr
      · rename_i j lv cv he hx hy
        obtain ⟨einfo, ed, g1, g2, rfl⟩ := tiOf_ok (ok.ty he)
        split at hr
        · rename_i z n m hz hn hm
          simp only at hz
          obtain ⟨hfl, zv, hz1, hz2⟩ := zeroOf_ok hz
          split at hr
          · rename_i hc
            obtain ⟨rfl, hbig, hzl⟩ := hc
            dsimp only at hbig hzl
            obtain ⟨H', hnew, rfl⟩ := newR_some hr
            obtain ⟨k1, q1⟩ := natOf_ok hn (opA_ok hF hx)
            obtain ⟨k2, q2⟩ := natOf_ok hm (opA_ok hF hy)
            rw [q1, q2]
            have hzc := absCells_ok (γ := γ) hz2
            have hzs : zv.cells.size = einfo.size := by have := hzc.length; simp only [Array.length_toList] at this; omega
            have hrep := repl_ok hzc n
            rw [hzs] at hrep
            have b1 : n * (einfo.bytes + einfo.size + 1) = n * einfo.bytes + n * einfo.size + n := by rw [Nat.mul_add, Nat.mul_add, Nat.mul_one]
            have b2 : (einfo.bytes : Int) * (n : Int) ≤ 281474976710656 := by
              rw [← Int.natCast_mul, Nat.mul_comm]; omega
            have hrun := run_makeSlice (P := E.P) w t e einfo zv h2 g1 hz1 k1 k2 (n : Int) (n : Int) (by omega) (Int.le_refl _) (by simp only [Int.toNat_natCast]; omega) b2 (by omega)
            simp only [Int.toNat_natCast] at hrun
            exact does_row h hN hnew hf hrun hrep (size_madeCells _ _)
          · cases hr
        · cases hr
      · cases hr
    · cases hr
end
end Go.Proofs.YtfcfliclmjikkaaGreatDoor.Ex
