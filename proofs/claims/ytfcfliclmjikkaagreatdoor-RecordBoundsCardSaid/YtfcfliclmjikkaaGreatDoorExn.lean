/- The plain runner: what Go itself brings: lengths, appends, copies, the least and the greatest; calls. -/
import Derived.Test.YtfcfliclmjikkaaGreatDoorExm
namespace Go.Proofs.YtfcfliclmjikkaaGreatDoor.Ex
open Go
set_option linter.unusedVariables false
set_option linter.unusedSimpArgs false
section
variable {E : Env} {γ : Cx} {N : Nat} {H : AH} {w : World} {F : Fr} {a : Act}

theorem len_ok (ok : TyOk E) {t ty : TypeId} {x : AV} {v : Value} {n : Nat} (h : lenA E t x = some n) (hv : VR γ x v) (ts : Array TypeId) (ht : ts[0]? = some t) : (Builtin.len_ ts ty #[v]).run E.P w = .ok (.int .i64 n) w := by
  unfold lenA at h
  cases hi : E.ty.get t with
  | none => simp [hi] at h
  | some i =>
    obtain ⟨info, d, h1, h2, rfl⟩ := tiOf_ok (ok.ty hi)
    simp only [hi] at h
    split at h
    · rename_i s hk
      obtain rfl := kind_str hk
      cases hv
      simp only [Option.some.injEq] at h; subst h
      simp [Builtin.len_, ht, run_underlying h2, goInt, size_ofList]
    · rename_i e hk
      obtain rfl := kind_slice hk
      cases hv
      simp only [Option.some.injEq] at h; subst h
      simp [Builtin.len_, ht, run_underlying h2, goInt]
    · rename_i e b o n' es full hk
      obtain rfl := kind_slice hk
      cases hv
      simp only [Option.some.injEq] at h; subst h
      simp [Builtin.len_, ht, run_underlying h2, goInt]
    · cases h

theorem cap_ok (ok : TyOk E) {t ty : TypeId} {x : AV} {v : Value} {n : Nat} (h : capA E t x = some n) (hv : VR γ x v) (ts : Array TypeId) (ht : ts[0]? = some t) : (Builtin.cap_ ts ty #[v]).run E.P w = .ok (.int .i64 n) w := by
  unfold capA at h
  cases hi : E.ty.get t with
  | none => simp [hi] at h
  | some i =>
    obtain ⟨info, d, h1, h2, rfl⟩ := tiOf_ok (ok.ty hi)
    simp only [hi] at h
    split at h
    · rename_i e hk
      obtain rfl := kind_slice hk
      cases hv
      simp only [Option.some.injEq] at h; subst h
      simp [Builtin.cap_, ht, run_underlying h2, goInt]
    · rename_i e b o n' es hk
      obtain rfl := kind_slice hk
      cases hv
      rename_i q1 q2 q3 q4
      simp only [Option.some.injEq] at h; subst h
      have := (by first | exact q1 rfl | exact q2 rfl | exact q3 rfl | exact q4 rfl)
      subst this
      simp [Builtin.cap_, ht, run_underlying h2, goInt]
    · cases h

/-- What is appended, or copied, as the machine reads it. -/
theorem addedA_ok (ok : TyOk E) (h : Rel E γ N H.bs.get w) {u : TypeId} {size : Nat} {x : AV} {v : Value} (hv : VR γ x v) {n : Nat} {l : List AV} (ha : addedA E u size x H = some (n, l)) (hc : l.all okc = true) :
    ∃ news, VRs γ l news ∧ Src E.P size u v n news w := by
  unfold addedA at ha
  cases hi : E.ty.get u with
  | none => simp [hi] at ha
  | some i =>
    obtain ⟨info, d, h1, h2, rfl⟩ := tiOf_ok (ok.ty hi)
    simp only [hi] at ha
    split at ha
    · rename_i s hk
      obtain rfl := kind_str hk
      cases hv
      split at ha
      · rename_i hs
        subst hs
        simp only [Option.some.injEq, Prod.mk.injEq] at ha
        obtain ⟨rfl, rfl⟩ := ha
        exact ⟨_, bytesA_ok s, Src.ofString w h2 ⟨s.toArray⟩⟩
      · cases ha
    · rename_i e hk
      obtain rfl := kind_slice hk
      cases hv
      simp only [Option.some.injEq, Prod.mk.injEq] at ha
      obtain ⟨rfl, rfl⟩ := ha
      exact ⟨[], .nil, Src.ofNil w h2 0⟩
    · rename_i e b o n' es full hk
      obtain rfl := kind_slice hk
      split at ha
      · rename_i hs
        subst hs
        cases hl : loadA H b o (n' * es) with
        | none => simp [hl] at ha
        | some l' =>
          simp only [hl, Option.some.injEq, Prod.mk.injEq] at ha
          obtain ⟨rfl, rfl⟩ := ha
          cases hv with
          | slice hloc hlen hfull haddr hfit =>
            rename_i β ω σ cap A
            obtain ⟨β', ω', σ', vs, e1, e2, e3, e4, e5, e6⟩ := loadA_ok h hl
            rw [hloc] at e1
            simp only [Option.some.injEq, Prod.mk.injEq] at e1
            obtain ⟨rfl, rfl, rfl⟩ := e1
            refine ⟨vs, e2, Src.ofSlice w h2 A n' cap vs e3 (fun j y hj => ?_) (VRs.oneCell e2 hc)⟩
            have hj' := (List.getElem?_eq_some_iff.1 hj).1
            have : n' ≠ 0 := by rintro rfl; simp at e3; rw [e3] at hj'; simp at hj'
            rw [haddr (by omega)]
            exact e6 j y hj
      · cases ha
    · cases ha

theorem get_dropIf_some {full : Bool} {bs : Tr Blk} {b id : Nat} {k : Blk} (h : (dropIf full bs b).get id = some k) : bs.get id = some k := by
  cases full
  · exact (Tr.get_del_some _ h).2
  · exact h

theorem drew_heap (w : World) : w.drew.heap = w.heap := rfl

/-- A row that grows, into new memory. -/
theorem grow_new (h : Rel E γ N H.bs.get w) (hN : N ≤ w.heap.size) {b o m n size : Nat} {full : Bool} {l : List AV} {r : R} (hr : growA H b o m n size full l = some r) (hall : l.all okc = true) (hfree : γ.loc H.n = none)
    {β ω σ : Nat} (hloc : γ.loc b = some (β, ω, σ)) {news olds : List Value} (hnews : VRs γ l news) (hnl : news.length = n * size)
    (holds : olds.length = m * size ∧ ∀ j v, olds[j]? = some v → w.cell? (Addr.add ⟨β, ω + o, none⟩ j) = some v)
    {rest : Array Value} {T : TypeId} {cap : Nat} (hcap : m + n ≤ cap) (hrest : rest.size = (cap - (m + n)) * size)
    {s : Sem Value} (hs : s.run E.P w = .ok (.slice (some ⟨w.heap.size, 0, none⟩) (m + n) cap) (w.drew.alloc (.cells ((olds ++ news).toArray ++ rest) T))) : Does E γ N H w (asNext s) r := by
  unfold growA at hr
  cases hk : H.bs.get b with
  | none => simp [hk] at hr
  | some k =>
    simp only [hk] at hr
    split at hr
    · rename_i hlen
      obtain ⟨β', ω', σ', hb⟩ := h.blk hk
      obtain ⟨rfl, rfl, rfl⟩ := hb.fun hloc
      -- the cells that were there
      have hold : ∀ i, i < m * size → ∃ v av, k.cells.get (o + i) = some av ∧ okc av = true ∧ olds[i]? = some v ∧ VR γ av v := fun i hi => by
        obtain ⟨v, av, e1, e2, e3, e4⟩ := hb.cell (o + i) (by omega)
        obtain ⟨v', hv'⟩ : ∃ v', olds[i]? = some v' := ⟨olds[i]'(by omega), by simp⟩
        have := holds.2 i v' hv'
        rw [show (⟨β', ω' + o, none⟩ : Addr).add i = ⟨β', ω' + (o + i), none⟩ by unfold Addr.add; split <;> simp_all [Nat.add_assoc], e3] at this
        simp only [Option.some.injEq] at this
        subst this
        exact ⟨v, av, e1, e2, hv', e4⟩
      have hlen2 := hnews.length
      -- the list that is there then
      obtain ⟨oldA, ho1, ho2, ho3⟩ : ∃ oldA : List AV, VRs γ oldA olds ∧ oldA.all okc = true ∧ ∀ i, i < m * size → k.cells.get (o + i) = oldA[i]? := by
        let oldA : List AV := (List.range (m * size)).map fun i => (k.cells.get (o + i)).getD .nilptr
        have hg : ∀ i, i < m * size → oldA[i]? = k.cells.get (o + i) := fun i hi => by
          obtain ⟨v, av, e1, _⟩ := hold i hi
          simp [oldA, hi, e1]
        refine ⟨oldA, VRs.of_get (by simp [oldA, holds.1]) (fun i x y hx hy => ?_), ?_, fun i hi => (hg i hi).symm⟩
        · have hi : i < m * size := by have := (List.getElem?_eq_some_iff.1 hy).1; omega
          obtain ⟨v, av, e1, e2, e3, e4⟩ := hold i hi
          rw [hg i hi, e1] at hx
          rw [e3] at hy
          simp only [Option.some.injEq] at hx hy
          subst hx hy
          exact e4
        · rw [List.all_eq_true]
          intro x hx
          obtain ⟨i, hi⟩ := List.mem_iff_getElem?.1 hx
          have hi' : i < m * size := by have := (List.getElem?_eq_some_iff.1 hi).1; simpa [oldA] using this
          obtain ⟨v, av, e1, e2, _⟩ := hold i hi'
          rw [hg i hi', e1] at hi
          simp only [Option.some.injEq] at hi
          subst hi
          exact e2
      have hbase := rel_new (id := H.n) (w' := w.drew.alloc (.cells ((olds ++ news).toArray ++ rest) T)) (cs := (olds ++ news).toArray ++ rest) (T := T) (fz := (0, 0)) (l := oldA ++ l) (vs := olds ++ news)
        (h.less (H' := (dropIf full H.bs b).get) (fun _ _ e => get_dropIf_some e)) hN hfree rfl (fun i hi => by simp) (ho1.append hnews) (by simp [List.all_append, ho2, hall]) (by simp) (fun i hi => by rw [Array.getElem?_append_left (by simpa using hi)]; simp)
      have hcs : ((olds ++ news).toArray ++ rest).size = cap * size := by
        rw [Array.size_append, List.size_toArray, List.length_append, holds.1, hnl, hrest, ← Nat.add_mul, ← Nat.add_mul]
        congr 1
        omega
      have hal : (oldA ++ l).length = m * size + l.length := by have := ho1.length; simp; omega
      -- whatever the table that holds them
      have key : ∀ cells : Tr AV, (∀ i, i < m * size + l.length → cells.get i = (oldA ++ l)[i]?) →
          Does E γ N H w (asNext s) (.val (.slice H.n 0 (m + n) size false) ⟨H.n + 1, (dropIf full H.bs b).set H.n ⟨m * size + l.length, cells⟩⟩) := fun cells hcells => by
        refine ⟨_, _, γ.bind H.n (w.heap.size, 0, ((olds ++ news).toArray ++ rest).size), run_asNext hs, .slice (Cx.bind_same _ _ _) (by omega) (by simp) (fun _ => by simp) ?_, ?_, ?_⟩
        · rw [hcs]; omega
        · have hR := (hbase ⟨rfl, rfl, rfl⟩).1
          rw [Tr.get_set_fun]
          refine ⟨fun {id k'} e => ?_, hR.low, fun {i j k1 k2 l1 l2} e1 e2 e3 e4 e5 => ?_, hR.glob, hR.sym⟩
          · unfold hset at e
            split at e
            · rename_i e0
              subst e0
              simp only [Option.some.injEq] at e
              subst e
              obtain ⟨β1, ω1, σ1, hb1⟩ := hR.blk (id := H.n) (k := ⟨(oldA ++ l).length, Tr.nil.put 0 (oldA ++ l)⟩) (by simp [hset])
              refine ⟨β1, ω1, σ1, hb1.loc, ?_, hb1.there, fun i hi => ?_⟩
              · have this : ω1 + (oldA ++ l).length ≤ σ1 := hb1.fit; rw [hal] at this; exact this
              · simp only at hi
                obtain ⟨v, av, c1, c2, c3, c4⟩ := hb1.cell i (show i < (oldA ++ l).length by rw [hal]; exact hi)
                refine ⟨v, av, ?_, c2, c3, c4⟩
                simp only at c1 ⊢
                rw [Tr.get_put, if_pos (by omega)] at c1
                rw [hcells i hi]
                simpa using c1
            · rename_i e0
              exact hR.blk (id := id) (by unfold hset; rw [if_neg e0]; exact e)
          · have conv : ∀ {i : Nat} {k1 : Blk}, hset (dropIf full H.bs b).get H.n ⟨m * size + l.length, cells⟩ i = some k1 → ∃ k2, hset (dropIf full H.bs b).get H.n ⟨(oldA ++ l).length, Tr.nil.put 0 (oldA ++ l)⟩ i = some k2 := fun {i k1} e => by
              unfold hset at e ⊢
              split at e
              · rename_i e0; exact ⟨_, by rw [if_pos e0]⟩
              · rename_i e0; exact ⟨k1, by rw [if_neg e0]; exact e⟩
            obtain ⟨_, f1⟩ := conv e1
            obtain ⟨_, f2⟩ := conv e2
            exact hR.inj f1 f2 e3 e4 e5
        · have hX := (hbase ⟨rfl, rfl, rfl⟩).2
          rw [Tr.get_set_fun]
          refine ⟨hX.le, hX.size, fun β hβ hf => hX.keep β hβ (fun id k' l' e1 e2 => hf id k' l' (get_dropIf_some e1) e2), fun {id k' l'} e1 e2 => ?_, hX.dom, hX.num, hX.still, fun {id k'} e1 => by
            unfold hset at e1
            split at e1
            · rename_i e0; subst e0; exact .inr ⟨Nat.le_refl _, Nat.lt_succ_self _⟩
            · exact .inl ⟨_, get_dropIf_some e1⟩⟩
          have : ∃ k2, hset (dropIf full H.bs b).get H.n ⟨(oldA ++ l).length, Tr.nil.put 0 (oldA ++ l)⟩ id = some k2 := by
            unfold hset at e1 ⊢
            split at e1
            · rename_i e0; exact ⟨_, by rw [if_pos e0]⟩
            · rename_i e0; exact ⟨k', by rw [if_neg e0]; exact e1⟩
          obtain ⟨k2, f1⟩ := this
          rcases hX.img f1 e2 with q | ⟨j, k0, l0, q1, q2, q3⟩
          · exact .inl q
          · exact .inr ⟨j, k0, l0, get_dropIf_some q1, q2, q3⟩
      split at hr
      · simp only [Option.some.injEq] at hr
        subst hr
        refine key _ (fun i hi => ?_)
        have := ho1.length
        rw [Tr.get_put]
        by_cases hi2 : m * size ≤ i ∧ i < m * size + l.length
        · rw [if_pos hi2, List.getElem?_append_right (by omega)]
          congr 1; omega
        · rw [if_neg hi2, List.getElem?_append_left (by omega)]
          have := ho3 i (by omega)
          simpa using this
      · cases ht : k.cells.take o (m * size) with
        | none => simp [ht] at hr
        | some old =>
          simp only [ht, Option.some.injEq] at hr
          subst hr
          obtain ⟨t1, t2⟩ := Tr.take_spec _ _ _ _ ht
          have : old = oldA := by
            apply List.ext_getElem?
            intro i
            by_cases hi : i < m * size
            · rw [← t2 i hi]; exact ho3 i hi
            · have := ho1.length
              rw [List.getElem?_eq_none (by omega), List.getElem?_eq_none (by omega)]
          subst this
          refine key _ (fun i hi => ?_)
          rw [Tr.get_put, if_pos (by simp only [Nat.zero_add, Nat.zero_le, true_and]; rw [List.length_append, t1]; exact hi)]
          simp
    · cases hr
end
end Go.Proofs.YtfcfliclmjikkaaGreatDoor.Ex
