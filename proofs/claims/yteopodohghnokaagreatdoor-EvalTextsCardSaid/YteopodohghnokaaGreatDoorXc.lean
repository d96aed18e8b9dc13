/- The plain runner: what Go itself brings: lengths, appends, copies, the least and the greatest; calls. -/
import Derived.Test.YteopodohghnokaaGreatDoorXb
import Derived.Deep.Upon
import Derived.LoopNIn
import Derived.Scope
import Derived.CallsIn
import Derived.TacticsIn
import Derived.RangeFuncLeaves
import Derived.RangeFuncRecord
section
namespace Go.Proofs.YteopodohghnokaaGreatDoor.Ex
open Go
set_option linter.unusedVariables false
set_option linter.unusedSimpArgs false
section
variable {E : Env} {γ : Cx} {N : Nat} {H : AH} {w : World} {F : Fr} {a : Act}

theorem len_ok (ok : TyOk E) {t ty : TypeId} {x : AV} {v : Value} {n : Nat} (h : lenA E t x = some n) (hv : VR γ x v) (ts : Array TypeId) (ht : ts[0]? = some t) : (Builtin.len_ ts ty #[v]).run E.P w = .ok (.int .i64 n) w := by
  unfold lenA at h
  cases hi : E.ty.get t with
  | none => simp [hi] at h
  | some i =>
    obtain ⟨info, d, h1, h2, rfl⟩ := tiOf_ok (ok.ty hi)
    simp only [hi] at h
    split at h
    · rename_i s hk
      obtain rfl := kind_str hk
      cases hv
      simp only [Option.some.injEq] at h; subst h
      simp [Builtin.len_, ht, run_underlying h2, goInt, size_ofList]
    · rename_i e hk
      obtain rfl := kind_slice hk
      cases hv
      simp only [Option.some.injEq] at h; subst h
      simp [Builtin.len_, ht, run_underlying h2, goInt]
    · rename_i e b o n' es full hk
      obtain rfl := kind_slice hk
      cases hv
      simp only [Option.some.injEq] at h; subst h
      simp [Builtin.len_, ht, run_underlying h2, goInt]
    · cases h

theorem cap_ok (ok : TyOk E) {t ty : TypeId} {x : AV} {v : Value} {n : Nat} (h : capA E t x = some n) (hv : VR γ x v) (ts : Array TypeId) (ht : ts[0]? = some t) : (Builtin.cap_ ts ty #[v]).run E.P w = .ok (.int .i64 n) w := by
  unfold capA at h
  cases hi : E.ty.get t with
  | none => simp [hi] at h
  | some i =>
    obtain ⟨info, d, h1, h2, rfl⟩ := tiOf_ok (ok.ty hi)
    simp only [hi] at h
    split at h
    · rename_i e hk
      obtain rfl := kind_slice hk
      cases hv
      simp only [Option.some.injEq] at h; subst h
      simp [Builtin.cap_, ht, run_underlying h2, goInt]
    · rename_i e b o n' es hk
      obtain rfl := kind_slice hk
      cases hv
      rename_i q1 q2 q3 q4
      simp only [Option.some.injEq] at h; subst h
      have := (by first | exact q1 rfl | exact q2 rfl | exact q3 rfl | exact q4 rfl)
      subst this
      simp [Builtin.cap_, ht, run_underlying h2, goInt]
    · cases h

/-- What is appended, or copied, as the machine reads it. -/
theorem addedA_ok (ok : TyOk E) (h : Rel E γ N H.bs.get w) {u : TypeId} {size : Nat} {x : AV} {v : Value} (hv : VR γ x v) {n : Nat} {l : List AV} (ha : addedA E u size x H = some (n, l)) (hc : l.all okc = true) :
    ∃ news, VRs γ l news ∧ Src E.P size u v n news w := by
  unfold addedA at ha
  cases hi : E.ty.get u with
  | none => simp [hi] at ha
  | some i =>
    obtain ⟨info, d, h1, h2, rfl⟩ := tiOf_ok (ok.ty hi)
    simp only [hi] at ha
    split at ha
    · rename_i s hk
      obtain rfl := kind_str hk
      cases hv
      split at ha
      · rename_i hs
        subst hs
        simp only [Option.some.injEq, Prod.mk.injEq] at ha
        obtain ⟨rfl, rfl⟩ := ha
        exact ⟨_, bytesA_ok s, Src.ofString w h2 ⟨s.toArray⟩⟩
      · cases ha
    · rename_i e hk
      obtain rfl := kind_slice hk
      cases hv
      simp only [Option.some.injEq, Prod.mk.injEq] at ha
      obtain ⟨rfl, rfl⟩ := ha
      exact ⟨[], .nil, Src.ofNil w h2 0⟩
    · rename_i e b o n' es full hk
      obtain rfl := kind_slice hk
      split at ha
      · rename_i hs
        subst hs
        cases hl : loadA H b o (n' * es) with
        | none => simp [hl] at ha
        | some l' =>
          simp only [hl, Option.some.injEq, Prod.mk.injEq] at ha
          obtain ⟨rfl, rfl⟩ := ha
          cases hv with
          | slice hloc hlen hfull haddr hfit =>
            rename_i β ω σ cap A
            obtain ⟨β', ω', σ', vs, e1, e2, e3, e4, e5, e6⟩ := loadA_ok h hl
            rw [hloc] at e1
            simp only [Option.some.injEq, Prod.mk.injEq] at e1
            obtain ⟨rfl, rfl, rfl⟩ := e1
            refine ⟨vs, e2, Src.ofSlice w h2 A n' cap vs e3 (fun j y hj => ?_) (VRs.oneCell e2 hc)⟩
            have hj' := (List.getElem?_eq_some_iff.1 hj).1
            have : n' ≠ 0 := by rintro rfl; simp at e3; rw [e3] at hj'; simp at hj'
            rw [haddr (by omega)]
            exact e6 j y hj
      · cases ha
    · cases ha

theorem get_dropIf_some {full : Bool} {bs : Tr Blk} {b id : Nat} {k : Blk} (h : (dropIf full bs b).get id = some k) : bs.get id = some k := by
  cases full
  · exact (Tr.get_del_some _ h).2
  · exact h

theorem drew_heap (w : World) : w.drew.heap = w.heap := rfl

/-- A row that grows, into new memory. -/
theorem grow_new (h : Rel E γ N H.bs.get w) (hN : N ≤ w.heap.size) {b o m n size : Nat} {full : Bool} {l : List AV} {r : R} (hr : growA H b o m n size full l = some r) (hall : l.all okc = true) (hfree : γ.loc H.n = none)
    {β ω σ : Nat} (hloc : γ.loc b = some (β, ω, σ)) {news olds : List Value} (hnews : VRs γ l news) (hnl : news.length = n * size)
    (holds : olds.length = m * size ∧ ∀ j v, olds[j]? = some v → w.cell? (Addr.add ⟨β, ω + o, none⟩ j) = some v)
    {rest : Array Value} {T : TypeId} {cap : Nat} (hcap : m + n ≤ cap) (hrest : rest.size = (cap - (m + n)) * size)
    {s : Sem Value} (hs : s.run E.P w = .ok (.slice (some ⟨w.heap.size, 0, none⟩) (m + n) cap) (w.drew.alloc (.cells ((olds ++ news).toArray ++ rest) T))) : Does E γ N H w (asNext s) r := by
  unfold growA at hr
  cases hk : H.bs.get b with
  | none => simp [hk] at hr
  | some k =>
    simp only [hk] at hr
    split at hr
    · rename_i hlen
      obtain ⟨β', ω', σ', hb⟩ := h.blk hk
      obtain ⟨rfl, rfl, rfl⟩ := hb.fun hloc
      -- the cells that were there
      have hold : ∀ i, i < m * size → ∃ v av, k.cells.get (o + i) = some av ∧ okc av = true ∧ olds[i]? = some v ∧ VR γ av v := fun i hi => by
        obtain ⟨v, av, e1, e2, e3, e4⟩ := hb.cell (o + i) (by omega)
        obtain ⟨v', hv'⟩ : ∃ v', olds[i]? = some v' := ⟨olds[i]'(by omega), by simp⟩
        have := holds.2 i v' hv'
        rw [show (⟨β', ω' + o, none⟩ : Addr).add i = ⟨β', ω' + (o + i), none⟩ by unfold Addr.add; split <;> simp_all [Nat.add_assoc], e3] at this
        simp only [Option.some.injEq] at this
        subst this
        exact ⟨v, av, e1, e2, hv', e4⟩
      have hlen2 := hnews.length
      -- the list that is there then
      obtain ⟨oldA, ho1, ho2, ho3⟩ : ∃ oldA : List AV, VRs γ oldA olds ∧ oldA.all okc = true ∧ ∀ i, i < m * size → k.cells.get (o + i) = oldA[i]? := by
        let oldA : List AV := (List.range (m * size)).map fun i => (k.cells.get (o + i)).getD .nilptr
        have hg : ∀ i, i < m * size → oldA[i]? = k.cells.get (o + i) := fun i hi => by
          obtain ⟨v, av, e1, _⟩ := hold i hi
          simp [oldA, hi, e1]
        refine ⟨oldA, VRs.of_get (by simp [oldA, holds.1]) (fun i x y hx hy => ?_), ?_, fun i hi => (hg i hi).symm⟩
        · have hi : i < m * size := by have := (List.getElem?_eq_some_iff.1 hy).1; omega
          obtain ⟨v, av, e1, e2, e3, e4⟩ := hold i hi
          rw [hg i hi, e1] at hx
          rw [e3] at hy
          simp only [Option.some.injEq] at hx hy
          subst hx hy
          exact e4
        · rw [List.all_eq_true]
          intro x hx
          obtain ⟨i, hi⟩ := List.mem_iff_getElem?.1 hx
          have hi' : i < m * size := by have := (List.getElem?_eq_some_iff.1 hi).1; simpa [oldA] using this
          obtain ⟨v, av, e1, e2, _⟩ := hold i hi'
          rw [hg i hi', e1] at hi
          simp only [Option.some.injEq] at hi
          subst hi
          exact e2
      have hbase := rel_new (id := H.n) (w' := w.drew.alloc (.cells ((olds ++ news).toArray ++ rest) T)) (cs := (olds ++ news).toArray ++ rest) (T := T) (fz := (0, 0)) (l := oldA ++ l) (vs := olds ++ news)
        (h.less (H' := (dropIf full H.bs b).get) (fun _ _ e => get_dropIf_some e)) hN hfree rfl (fun i hi => by simp) (ho1.append hnews) (by simp [List.all_append, ho2, hall]) (by simp) (fun i hi => by rw [Array.getElem?_append_left (by simpa using hi)]; simp)
      have hcs : ((olds ++ news).toArray ++ rest).size = cap * size := by
        rw [Array.size_append, List.size_toArray, List.length_append, holds.1, hnl, hrest, ← Nat.add_mul, ← Nat.add_mul]
        congr 1
        omega
      have hal : (oldA ++ l).length = m * size + l.length := by have := ho1.length; simp; omega
      -- whatever the table that holds them
      have key : ∀ cells : Tr AV, (∀ i, i < m * size + l.length → cells.get i = (oldA ++ l)[i]?) →
          Does E γ N H w (asNext s) (.val (.slice H.n 0 (m + n) size false) ⟨H.n + 1, (dropIf full H.bs b).set H.n ⟨m * size + l.length, cells⟩⟩) := fun cells hcells => by
        refine ⟨_, _, γ.bind H.n (w.heap.size, 0, ((olds ++ news).toArray ++ rest).size), run_asNext hs, .slice (Cx.bind_same _ _ _) (by omega) (by simp) (fun _ => by simp) ?_, ?_, ?_⟩
        · rw [hcs]; omega
        · have hR := (hbase ⟨rfl, rfl, rfl⟩).1
          rw [Tr.get_set_fun]
          refine ⟨fun {id k'} e => ?_, hR.low, fun {i j k1 k2 l1 l2} e1 e2 e3 e4 e5 => ?_, hR.glob, hR.sym⟩
          · unfold hset at e
            split at e
            · rename_i e0
              subst e0
              simp only [Option.some.injEq] at e
              subst e
              obtain ⟨β1, ω1, σ1, hb1⟩ := hR.blk (id := H.n) (k := ⟨(oldA ++ l).length, Tr.nil.put 0 (oldA ++ l)⟩) (by simp [hset])
              refine ⟨β1, ω1, σ1, hb1.loc, ?_, hb1.there, fun i hi => ?_⟩
              · have this : ω1 + (oldA ++ l).length ≤ σ1 := hb1.fit; rw [hal] at this; exact this
              · simp only at hi
                obtain ⟨v, av, c1, c2, c3, c4⟩ := hb1.cell i (show i < (oldA ++ l).length by rw [hal]; exact hi)
                refine ⟨v, av, ?_, c2, c3, c4⟩
                simp only at c1 ⊢
                rw [Tr.get_put, if_pos (by omega)] at c1
                rw [hcells i hi]
                simpa using c1
            · rename_i e0
              exact hR.blk (id := id) (by unfold hset; rw [if_neg e0]; exact e)
          · have conv : ∀ {i : Nat} {k1 : Blk}, hset (dropIf full H.bs b).get H.n ⟨m * size + l.length, cells⟩ i = some k1 → ∃ k2, hset (dropIf full H.bs b).get H.n ⟨(oldA ++ l).length, Tr.nil.put 0 (oldA ++ l)⟩ i = some k2 := fun {i k1} e => by
              unfold hset at e ⊢
              split at e
              · rename_i e0; exact ⟨_, by rw [if_pos e0]⟩
              · rename_i e0; exact ⟨k1, by rw [if_neg e0]; exact e⟩
            obtain ⟨_, f1⟩ := conv e1
            obtain ⟨_, f2⟩ := conv e2
            exact hR.inj f1 f2 e3 e4 e5
        · have hX := (hbase ⟨rfl, rfl, rfl⟩).2
          rw [Tr.get_set_fun]
          refine ⟨hX.le, hX.size, fun β hβ hf => hX.keep β hβ (fun id k' l' e1 e2 => hf id k' l' (get_dropIf_some e1) e2), fun {id k' l'} e1 e2 => ?_, hX.dom, hX.num, hX.still, fun {id k'} e1 => by
            unfold hset at e1
            split at e1
            · rename_i e0; subst e0; exact .inr ⟨Nat.le_refl _, Nat.lt_succ_self _⟩
            · exact .inl ⟨_, get_dropIf_some e1⟩⟩
          have : ∃ k2, hset (dropIf full H.bs b).get H.n ⟨(oldA ++ l).length, Tr.nil.put 0 (oldA ++ l)⟩ id = some k2 := by
            unfold hset at e1 ⊢
            split at e1
            · rename_i e0; exact ⟨_, by rw [if_pos e0]⟩
            · rename_i e0; exact ⟨k', by rw [if_neg e0]; exact e1⟩
          obtain ⟨k2, f1⟩ := this
          rcases hX.img f1 e2 with q | ⟨j, k0, l0, q1, q2, q3⟩
          · exact .inl q
          · exact .inr ⟨j, k0, l0, get_dropIf_some q1, q2, q3⟩
      split at hr
      · simp only [Option.some.injEq] at hr
        subst hr
        refine key _ (fun i hi => ?_)
        have := ho1.length
        rw [Tr.get_put]
        by_cases hi2 : m * size ≤ i ∧ i < m * size + l.length
        · rw [if_pos hi2, List.getElem?_append_right (by omega)]
          congr 1; omega
        · rw [if_neg hi2, List.getElem?_append_left (by omega)]
          have := ho3 i (by omega)
          simpa using this
      · cases ht : k.cells.take o (m * size) with
        | none => simp [ht] at hr
        | some old =>
          simp only [ht, Option.some.injEq] at hr
          subst hr
          obtain ⟨t1, t2⟩ := Tr.take_spec _ _ _ _ ht
          have : old = oldA := by
            apply List.ext_getElem?
            intro i
            by_cases hi : i < m * size
            · rw [← t2 i hi]; exact ho3 i hi
            · have := ho1.length
              rw [List.getElem?_eq_none (by omega), List.getElem?_eq_none (by omega)]
          subst this
          refine key _ (fun i hi => ?_)
          rw [Tr.get_put, if_pos (by simp only [Nat.zero_add, Nat.zero_le, true_and]; rw [List.length_append, t1]; exact hi)]
          simp
    · cases hr
end
end Go.Proofs.YteopodohghnokaaGreatDoor.Ex
end
section
namespace Go.Proofs.YteopodohghnokaaGreatDoor.Ex
open Go
set_option linter.unusedVariables false
set_option linter.unusedSimpArgs false
section
variable {E : Env} {γ : Cx} {N : Nat} {H : AH} {w : World} {F : Fr} {a : Act}

/-- A row that grows where it lies. -/
theorem grow_here (h : Rel E γ N H.bs.get w) {b o m n size : Nat} {l : List AV} {r : R} (hr : growA H b o m n size false l = some r) (hall : l.all okc = true) (hfree : γ.loc H.n = none)
    {β ω σ : Nat} (hloc : γ.loc b = some (β, ω, σ)) {news : List Value} (hnews : VRs γ l news) (hnl : news.length = n * size) {cap : Nat} (hcap : m + n ≤ cap) (hfit : ω + o + cap * size ≤ σ)
    {s : Sem Value} (hs : s.run E.P w = .ok (.slice (some ⟨β, ω + o, none⟩) (m + n) cap) (w.setCells β (ω + o + m * size) news)) : Does E γ N H w (asNext s) r := by
  unfold growA at hr
  cases hk : H.bs.get b with
  | none => simp [hk] at hr
  | some k =>
    simp only [hk] at hr
    split at hr
    · rename_i hlen
      obtain ⟨β', ω', σ', hb⟩ := h.blk hk
      obtain ⟨rfl, rfl, rfl⟩ := hb.fun hloc
      have hlen2 := hnews.length
      have hmn : (m + n) * size ≤ cap * size := Nat.mul_le_mul_right _ hcap
      rw [Nat.add_mul] at hmn
      have hle := Cx.le_bind (β', ω' + o, σ') hfree
      have hin : ∀ j, j < news.length → (w.cell? ⟨β', ω' + o + m * size + j, none⟩).isSome = true := fun j hj => (hb.there _ (by omega)).1
      have key : ∀ cells : Tr AV, (∀ i, i < m * size → cells.get i = k.cells.get (o + i)) → (∀ i, m * size ≤ i → i < m * size + l.length → cells.get i = l[i - m * size]?) →
          Does E γ N H w (asNext s) (.val (.slice H.n 0 (m + n) size false) ⟨H.n + 1, (H.bs.del b).set H.n ⟨m * size + l.length, cells⟩⟩) := fun cells c1 c2 => by
        have hB : RelB (γ.bind H.n (β', ω' + o, σ')) (w.setCells β' (ω' + o + m * size) news) H.n ⟨m * size + l.length, cells⟩ β' (ω' + o) σ' := by
          refine ⟨Cx.bind_same _ _ _, by simp only; omega, fun i hi => ?_, fun i hi => ?_⟩
          · rw [World.frozen?_setCells]
            refine ⟨?_, (hb.there i hi).2⟩
            by_cases hx : ω' + o + m * size ≤ i ∧ i < ω' + o + m * size + news.length
            · obtain ⟨j, rfl⟩ : ∃ j, i = ω' + o + m * size + j := ⟨i - (ω' + o + m * size), by omega⟩
              rw [World.cell?_setCells_in β' news _ w hin j (by omega)]
              rfl
            · rw [World.cell?_setCells_out β' news _ w _ (fun _ _ => by simp only; omega)]
              exact (hb.there i hi).1
          · simp only at hi
            by_cases hx : m * size ≤ i
            · obtain ⟨av, hav⟩ : ∃ av, l[i - m * size]? = some av := ⟨l[i - m * size]'(by omega), by simp⟩
              obtain ⟨v, v1, v2⟩ := hnews.get _ hav
              refine ⟨v, av, by simp only; rw [c2 i hx hi]; exact hav, List.all_eq_true.1 hall av (List.mem_of_getElem? hav), ?_, v2.mono hle⟩
              rw [show ω' + o + i = ω' + o + m * size + (i - m * size) by omega, World.cell?_setCells_in β' news _ w hin _ (by omega), ← v1]
              simp
            · obtain ⟨v, av, e1, e2, e3, e4⟩ := hb.cell (o + i) (by omega)
              refine ⟨v, av, by simp only; rw [c1 i (by omega)]; exact e1, e2, ?_, e4.mono hle⟩
              rw [World.cell?_setCells_out β' news _ w _ (fun _ _ => by simp only; omega), Nat.add_assoc]
              exact e3
        have hR := rel_rename (id := H.n) h hk hloc hfree (size_setCells _ _ _ _) (fun i hi => heap_setCells _ _ _ _ _ hi) hB (same_setCells _ _ _ _)
        have hfun : hset (fun j => if j = b then none else H.bs.get j) H.n ⟨m * size + l.length, cells⟩ = ((H.bs.del b).set H.n ⟨m * size + l.length, cells⟩).get := by
          rw [Tr.get_set_fun]
          congr 1
          funext j
          by_cases hj : j = b
          · subst hj; rw [if_pos rfl, Tr.get_del_same]
          · rw [if_neg hj, Tr.get_del_ne _ (Ne.symm hj)]
        rw [hfun] at hR
        exact ⟨_, _, _, run_asNext hs, .slice (Cx.bind_same _ _ _) hcap (by simp) (fun _ => by simp) (by omega), hR.1, hR.2⟩
      split at hr
      · simp only [dropIf, Option.some.injEq] at hr
        subst hr
        refine key _ (fun i hi => ?_) (fun i hi hi2 => ?_)
        · rw [Tr.get_put, if_neg (by omega)]; simp
        · rw [Tr.get_put, if_pos ⟨hi, hi2⟩]
      · cases ht : k.cells.take o (m * size) with
        | none => simp [ht] at hr
        | some old =>
          simp only [ht, dropIf, Option.some.injEq] at hr
          subst hr
          obtain ⟨t1, t2⟩ := Tr.take_spec _ _ _ _ ht
          refine key _ (fun i hi => ?_) (fun i hi hi2 => ?_)
          · rw [Tr.get_put, if_pos (by simp only [Nat.zero_add, Nat.zero_le, true_and, List.length_append]; omega), List.getElem?_append_left (by omega), t2 i hi]
            simp
          · rw [Tr.get_put, if_pos (by simp only [Nat.zero_add, Nat.zero_le, true_and, List.length_append]; omega), List.getElem?_append_right (by omega), t1]
            simp
    · cases hr

theorem appendE_ok (h : Rel E γ N H.bs.get w) (hN : N ≤ w.heap.size) {t u ty e : TypeId} {info : TypeInfo} {d : TypeDesc} {q : Bool} (ht : E.P.underlying t = some (.slice e)) (hi : E.P.info? e = some info) {s : AV} {sv x : Value} (hv : VR γ s sv)
    {n : Nat} {l : List AV} {r : R} (hr : appendE E ⟨kindOf d, info.size, info.bytes, zeroOf E.P d info, q⟩ s n l H = some r) (hsrc : l.all okc = true → ∃ news, VRs γ l news ∧ Src E.P info.size u x n news w) (hsrc0 : n = 0 → Src E.P info.size u x 0 [] w)
    (hf : ∀ id, H.n ≤ id → id < r.n → γ.loc id = none) : Does E γ N H w (asNext (Builtin.append_ #[t, u] ty #[sv, x])) r := by
  unfold appendE at hr
  cases n with
  | zero =>
    simp only at hr
    have h0 := hsrc0 rfl
    cases hv <;> simp only at hr <;> try (cases hr; done)
    · simp only [Option.some.injEq] at hr; subst hr
      rename_i h1 h2 h3 h4 h5
      exact does_val h (run_asNext (run_append_nothing w t u ty e info ht hi _ _ _ h2 x h0)) (.slice h1 h2 h3 h4 h5)
    · simp only [Option.some.injEq] at hr; subst hr
      exact does_val h (run_asNext (run_append_nothing w t u ty e info ht hi _ _ _ (Nat.le_refl _) x h0)) .nilslice
  | succ n =>
    simp only at hr
    cases hz : zeroOf E.P d info with
    | none => simp [hz] at hr
    | some z =>
      obtain ⟨hfl, zv, hz1, hz2⟩ := zeroOf_ok hz
      simp only [hz] at hr
      split at hr
      · rename_i hc
        obtain ⟨hzl, hall⟩ := hc
        obtain ⟨news, hn1, hn2⟩ := hsrc hall
        have hzc := absCells_ok (γ := γ) hz2
        have hzs : zv.cells.size = info.size := by have := hzc.length; simp only [Array.length_toList] at this; omega
        cases hv <;> simp only at hr <;> try (cases hr; done)
        · rename_i b o len es full β ω σ cap A hloc hlen hfull haddr hfit
          split at hr
          · rename_i hc2
            obtain ⟨rfl, hbig⟩ := hc2
            have hbytes : (len + (n + 1)) * info.bytes ≤ 140737488355328 := by
              have : (len + (n + 1)) * (info.bytes + 1) = (len + (n + 1)) * info.bytes + (len + (n + 1)) := by rw [Nat.mul_add, Nat.mul_one]
              omega
            have hsmall : len + (n + 1) ≤ 1073741824 := by
              have : (len + (n + 1)) * (info.bytes + 1) = (len + (n + 1)) * info.bytes + (len + (n + 1)) := by rw [Nat.mul_add, Nat.mul_one]
              omega
            have hrn : r.n = H.n + 1 := by
              unfold growA at hr
              split at hr
              · cases hr
              · split at hr
                · split at hr
                  · simp only [Option.some.injEq] at hr; subst hr; rfl
                  · split at hr
                    · simp only [Option.some.injEq] at hr; subst hr; rfl
                    · cases hr
                · cases hr
            have hfree : γ.loc H.n = none := hf _ (Nat.le_refl _) (by omega)
            by_cases hroom : len + (n + 1) ≤ cap
            · -- there is room
              have hff : full = false := by
                cases full
                · rfl
                · have := hfull rfl; omega
              subst hff
              obtain rfl := haddr (by omega)
              have hb : ∃ k, H.bs.get b = some k := by
                unfold growA at hr
                cases hk : H.bs.get b with
                | none => simp [hk] at hr
                | some k => exact ⟨k, rfl⟩
              obtain ⟨k, hk⟩ := hb
              obtain ⟨β', ω', σ', hB⟩ := h.blk hk
              obtain ⟨rfl, rfl, rfl⟩ := hB.fun hloc
              have hnl := hn2.newsLen
              have hmn : (len + (n + 1)) * info.size ≤ cap * info.size := Nat.mul_le_mul_right _ hroom
              rw [Nat.add_mul] at hmn
              exact grow_here h hr hall hfree hloc hn1 hnl hroom hfit
                (run_append_room_src w t u ty e info ht hi β' (ω' + o) len cap x (n + 1) news hn2 hroom (fun j hj => (hB.there _ (by omega)).1) (fun j hj => (hB.there _ (by omega)).2))
            · -- there is none
              obtain ⟨olds, ho1, ho2⟩ : ∃ olds : List Value, olds.length = len * info.size ∧ ∀ j v, olds[j]? = some v → w.cell? (Addr.add ⟨β, ω + o, none⟩ j) = some v := by
                have hb : ∃ k, H.bs.get b = some k ∧ o + len * info.size ≤ k.len := by
                  unfold growA at hr
                  cases hk : H.bs.get b with
                  | none => simp [hk] at hr
                  | some k =>
                    simp only [hk] at hr
                    split at hr
                    · rename_i hle; exact ⟨k, rfl, hle⟩
                    · cases hr
                obtain ⟨k, hk, hkl⟩ := hb
                obtain ⟨β', ω', σ', hB⟩ := h.blk hk
                obtain ⟨rfl, rfl, rfl⟩ := hB.fun hloc
                refine ⟨(List.range (len * info.size)).map fun j => (w.cell? ⟨β', ω' + o + j, none⟩).getD undef, by simp, fun j v hj => ?_⟩
                have hj' : j < len * info.size := by have := (List.getElem?_eq_some_iff.1 hj).1; simpa using this
                obtain ⟨v', av, e1, e2, e3, e4⟩ := hB.cell (o + j) (by omega)
                rw [← Nat.add_assoc] at e3
                simp [hj', e3] at hj
                subst hj
                rw [show (⟨β', ω' + o, none⟩ : Addr).add j = ⟨β', ω' + o + j, none⟩ by unfold Addr.add; split <;> simp_all]
                exact e3
              have hold : (Builtin.firstCells info.size len (.slice (some A) len cap)).run E.P w.drew = .ok olds.toArray w.drew := by
                refine run_firstCells_some w.drew info.size len A len cap olds ho1 (fun j v hj => ?_)
                have hj' := (List.getElem?_eq_some_iff.1 hj).1
                have : len ≠ 0 := by rintro rfl; simp at ho1; rw [ho1] at hj'; simp at hj'
                rw [haddr (by omega)]
                have := ho2 j v hj
                simpa using this
              have hrun := run_append_grow_src w t u ty e info zv ht hi hz1 (some A) len cap olds hold x (n + 1) news hn2 (by omega) (by omega) (growslice_fits (by omega) hbytes)
              exact grow_new h hN hr hall hfree hloc hn1 hn2.newsLen ⟨ho1, ho2⟩ (grownCap_ge w (len + (n + 1)) cap e) (by rw [size_zeroCells, hzs]) hrun
          · cases hr
        · -- onto nothing
          split at hr
          · rename_i hbig
            cases hnw : H.new l with
            | none => simp [hnw] at hr
            | some H' =>
              simp only [hnw, Option.some.injEq] at hr
              subst hr
              have hb0 : (n + 1) * (info.bytes + 1) = (n + 1) * info.bytes + (n + 1) := by rw [Nat.mul_add, Nat.mul_one]
              have hrun := run_append_grow_src w t u ty e info zv ht hi hz1 none 0 0 [] (run_firstCells_none w.drew info.size 0 0 0) x (n + 1) news hn2 (by omega) (by omega) (growslice_fits (by omega) (by rw [Nat.zero_add]; omega))
              have hge := grownCap_ge w (0 + (n + 1)) 0 e
              simp only [Nat.zero_add, List.nil_append] at hrun hge
              have hsz : (news.toArray ++ Builtin.zeroCells zv.cells (grownCap w (n + 1) 0 e - (n + 1))).size = grownCap w (n + 1) 0 e * info.size := by
                rw [Array.size_append, List.size_toArray, hn2.newsLen, size_zeroCells, hzs, ← Nat.add_mul]
                congr 1
                omega
              refine does_new h hN hnw hf (fz := (0, 0)) (run_asNext hrun) rfl (fun i hi => by simp) hn1 (by simp) (fun i hi => by rw [Array.getElem?_append_left (by simpa using hi)]; simp) ?_
              refine .slice (Cx.bind_same _ _ _) hge (by simp) (fun _ => by simp) ?_
              rw [hsz]; omega
          · cases hr
      · cases hr

theorem run_append_zeros {P : Program} (w : World) (t tx ty e : TypeId) (i : TypeInfo) (z : Value) (k0 : IntKind) (ht : P.underlying t = some (.slice e)) (htx : P.underlying tx = some (.int k0)) (hi : P.info? e = some i) (hz : i.zero = some z) (k : IntKind) (n : Nat)
    (h0 : 0 < n) (h1 : n ≤ 1000000) (hb : n * (i.bytes + 1) ≤ 1073741824) :
    (Builtin.append_ #[t, tx] ty #[.slice none 0 0, .int k (.ofNat n)]).run P w =
      .ok (.slice (some ⟨w.heap.size, 0, none⟩) n (grownCap w n 0 e)) (w.drew.alloc (.cells ((if n * i.size = 0 then #[] else Builtin.zeroCells z.cells n) ++ Builtin.zeroCells z.cells (grownCap w n 0 e - n)) e)) := by
  have hb0 : n * (i.bytes + 1) = n * i.bytes + n := by rw [Nat.mul_add, Nat.mul_one]
  have hw : IntKind.i64.wrap (n : Int) = (n : Int) := by
    rw [← wrapF_eq]
    unfold wrapF inKind
    rw [decide_eq_true (show lowOf .i64 ≤ (n : Int) by simp [lowOf]), decide_eq_true (show (n : Int) ≤ highOf .i64 by simp [highOf]; omega)]
    rfl
  have hneg : ¬ ((n : Int) < 0) := by omega
  have hbig : ¬ (281474976710656 < (n : Int) * (i.bytes : Int)) := by
    have : ((n * i.bytes : Nat) : Int) ≤ 1073741824 := by omega
    rw [Int.natCast_mul] at this
    omega
  have hn : ¬ (n ≤ 0) := by omega
  have h63' : ¬ (9223372036854775807 < (n : Int)) := by omega
  have h48 : Builtin.nextslicecap (0 + n) 0 * i.bytes ≤ 281474976710656 := growslice_fits (by omega) (by rw [Nat.zero_add]; omega)
  rw [Nat.zero_add] at h48
  have h48' : ¬ (281474976710656 < Builtin.nextslicecap n 0 * i.bytes) := by omega
  by_cases hs : n * i.size = 0
  · simp [Builtin.append_, run_underlying ht, run_underlying htx, sizeOf, typeInfo, zeroValue, hi, hz, asInt, asIntOf, hw, hneg, hbig, hn, h63', h48', Question.forced, run_firstCells_none, newRow, grownCap, hs]
    omega
  · simp [Builtin.append_, run_underlying ht, run_underlying htx, sizeOf, typeInfo, zeroValue, hi, hz, asInt, asIntOf, hw, hneg, hbig, hn, h63', h48', Question.forced, run_firstCells_none, newRow, grownCap, hs]
    omega
theorem zeros_ok (ok : TyOk E) (h : Rel E γ N H.bs.get w) (hN : N ≤ w.heap.size) {t u ty e : TypeId} {info : TypeInfo} {d : TypeDesc} {q : Bool} (h2 : E.P.underlying t = some (.slice e)) (g1 : E.P.info? e = some info) (hz : isIntT E u = true) {s x : AV} {sv xv : Value} (hs : VR γ s sv) (hx : VR γ x xv) {r : R}
    (hr : zerosA ⟨kindOf d, info.size, info.bytes, zeroOf E.P d info, q⟩ s x H = some r) (hf : ∀ id, H.n ≤ id → id < r.n → γ.loc id = none) : Does E γ N H w (asNext (Builtin.append_ #[t, u] ty #[sv, xv])) r := by
  have hu : ∃ k0, E.P.underlying u = some (.int k0) := by
    unfold isIntT isIntTy at hz
    split at hz
    · rename_i j hj
      obtain ⟨jinfo, jd, j1, j2, rfl⟩ := tiOf_ok (ok.ty hj)
      split at hz
      · rename_i k hk
        obtain rfl := kind_int hk
        exact ⟨k, j2⟩
      · cases hz
    · cases hz
  obtain ⟨k0, hu⟩ := hu
  unfold zerosA at hr
  split at hr
  · rename_i k n
    cases hs
    cases hx
    simp only at hr
    split at hr
    · rename_i z hzz
      split at hr
      · rename_i hc
        obtain ⟨h0, hzl, hn1, hb⟩ := hc
        cases hnw : H.new (replA z n) with
        | none => simp [hnw] at hr
        | some H' =>
          simp only [hnw, Option.some.injEq] at hr
          subst hr
          obtain ⟨hfl, zv, hz1, hz2⟩ := zeroOf_ok hzz
          have hzc := absCells_ok (γ := γ) hz2
          have hzs : zv.cells.size = info.size := by have := hzc.length; simp only [Array.length_toList] at this; omega
          have hrun := run_append_zeros w t u ty e info zv k0 h2 hu g1 hz1 k n h0 hn1 hb
          have hnews := repl_ok hzc n
          have hcells : (if n * info.size = 0 then #[] else Builtin.zeroCells zv.cells n) = madeCells zv.cells (n * zv.cells.size) := by
            rw [hzs]
            split
            · rename_i e0; rw [e0]; simp [madeCells]
            · rw [← hzs]; rfl
          rw [hcells] at hrun
          have hge := grownCap_ge w n 0 e
          have hms : (madeCells zv.cells (n * zv.cells.size)).size = n * info.size := by rw [size_madeCells, hzs]
          have hsz : (madeCells zv.cells (n * zv.cells.size) ++ Builtin.zeroCells zv.cells (grownCap w n 0 e - n)).size = grownCap w n 0 e * info.size := by
            rw [Array.size_append, hms, size_zeroCells, hzs, ← Nat.add_mul]
            congr 1
            omega
          refine does_new h hN hnw hf (fz := (0, 0)) (run_asNext hrun) rfl (fun i hi => by simp) hnews (by simp) (fun i hi => by rw [Array.getElem?_append_left (by simpa using hi)]; simp) ?_
          refine .slice (Cx.bind_same _ _ _) hge (by simp) (fun _ => by simp) ?_
          rw [hsz]; omega
      · cases hr
    · cases hr
  · cases hr
theorem append_ok (ok : TyOk E) (h : Rel E γ N H.bs.get w) (hN : N ≤ w.heap.size) {t u ty : TypeId} {s x : AV} {sv xv : Value} (hs : VR γ s sv) (hx : VR γ x xv) {r : R} (hr : appendA E t u s x H = some r)
    (hf : ∀ id, H.n ≤ id → id < r.n → γ.loc id = none) : Does E γ N H w (asNext (Builtin.append_ #[t, u] ty #[sv, xv])) r := by
  unfold appendA at hr
  cases ht : E.ty.get t with
  | none => simp [ht] at hr
  | some i =>
    obtain ⟨info, d, h1, h2, rfl⟩ := tiOf_ok (ok.ty ht)
    simp only [ht] at hr
    split at hr
    · rename_i e hk
      obtain rfl := kind_slice hk
      cases he : E.ty.get e with
      | none => simp [he] at hr
      | some ie =>
        obtain ⟨einfo, ed, g1, g2, rfl⟩ := tiOf_ok (ok.ty he)
        simp only [he] at hr
        cases hz : isIntT E u with
        | true => rw [hz] at hr; exact zeros_ok ok h hN h2 g1 hz hs hx hr hf
        | false =>
        rw [hz] at hr
        simp only at hr
        cases ha : addedA E u einfo.size x H with
        | none => simp [ha] at hr
        | some q =>
          obtain ⟨n, l⟩ := q
          simp only [ha] at hr
          refine appendE_ok h hN h2 g1 hs hr (fun hall => addedA_ok ok h hx ha hall) (fun hn => ?_) hf
          subst hn
          have hl0 : l = [] := by
            unfold addedA at ha
            split at ha
            · cases ha
            · split at ha
              · split at ha
                · simp only [Option.some.injEq, Prod.mk.injEq] at ha
                  obtain ⟨hh, rfl⟩ := ha
                  simp [List.length_eq_zero_iff.1 hh, bytesA]
                · cases ha
              · simp only [Option.some.injEq, Prod.mk.injEq] at ha; exact ha.2.symm
              · split at ha
                · split at ha
                  · rename_i l' hl'
                    simp only [Option.some.injEq, Prod.mk.injEq] at ha
                    obtain ⟨rfl, rfl⟩ := ha
                    obtain ⟨_, _, _, vs, _, e2, e3, _⟩ := loadA_ok h hl'
                    have := e2.length
                    exact List.length_eq_zero_iff.1 (by simp at e3; simp [this, e3])
                  · cases ha
                · cases ha
              · cases ha
          subst hl0
          obtain ⟨news, n1, n2⟩ := addedA_ok ok h hx ha rfl
          cases n1
          exact n2
    · cases hr

theorem lessA_ok (hs : SymOk E γ) {x y : AV} {x' y' : Value} {b : Bool} (h : lessA E x y = some b) (hx : VR γ x x') (hy : VR γ y y') : ∃ k p q, x' = .int k p ∧ y' = .int k q ∧ b = decide (p < q) := by
  unfold lessA at h
  split at h
  · rename_i k p hp
    split at h
    · rename_i k' q hq
      split at h
      · rename_i hk
        subst hk
        split at h
        · rename_i c hc
          simp only [Option.some.injEq] at h
          subst h
          obtain ⟨v', ⟨_, b2⟩, b3⟩ := linOp_ok (w := (default : World)) (P := E.P) (t := 0) (xo := .const undef) (yo := .const undef) hs hc
          cases b3
          simp [Go.binOp, Op.intCmp] at b2
          exact ⟨_, _, _, linOf_ok hp hx, linOf_ok hq hy, b2.symm⟩
        · cases h
      · cases h
    · cases h
  · cases h
theorem min_ok (hs : SymOk E γ) : ∀ {l : List AV} {x v : AV} {x' : Value} {l' : List Value}, bestA E false x l = some v → VR γ x x' → VRs γ l l' → ∃ v', (l'.foldlM Builtin.min2 x').run E.P w = .ok v' w ∧ VR γ v v'
  | [], x, v, x', l', h, hx, hl => by
    cases hl
    simp only [bestA, Option.some.injEq] at h
    subst h
    exact ⟨x', rfl, hx⟩
  | y :: l, x, v, x', l', h, hx, hl => by
    cases hl with
    | cons hy hl =>
      simp only [bestA] at h
      split at h
      · rename_i hb
        obtain ⟨k, p, q, rfl, rfl, hlt⟩ := lessA_ok hs hb hy hx
        have hlt' : p < q := by simpa using hlt.symm
        obtain ⟨v', e1, e2⟩ := min_ok hs h hy hl
        exact ⟨v', by simp [List.foldlM, Builtin.min2, hlt', e1], e2⟩
      · rename_i hb
        obtain ⟨k, p, q, rfl, rfl, hlt⟩ := lessA_ok hs hb hy hx
        have hlt' : ¬ p < q := by simpa using hlt.symm
        obtain ⟨v', e1, e2⟩ := min_ok hs h hx hl
        exact ⟨v', by simp [List.foldlM, Builtin.min2, hlt', e1], e2⟩
      · cases h
theorem max_ok (hs : SymOk E γ) : ∀ {l : List AV} {x v : AV} {x' : Value} {l' : List Value}, bestA E true x l = some v → VR γ x x' → VRs γ l l' → ∃ v', (l'.foldlM Builtin.max2 x').run E.P w = .ok v' w ∧ VR γ v v'
  | [], x, v, x', l', h, hx, hl => by
    cases hl
    simp only [bestA, Option.some.injEq] at h
    subst h
    exact ⟨x', rfl, hx⟩
  | y :: l, x, v, x', l', h, hx, hl => by
    cases hl with
    | cons hy hl =>
      simp only [bestA] at h
      split at h
      · rename_i hb
        obtain ⟨k, p, q, rfl, rfl, hlt⟩ := lessA_ok hs hb hx hy
        have hlt' : p < q := by simpa using hlt.symm
        obtain ⟨v', e1, e2⟩ := max_ok hs h hy hl
        exact ⟨v', by simp [List.foldlM, Builtin.max2, hlt', e1], e2⟩
      · rename_i hb
        obtain ⟨k, p, q, rfl, rfl, hlt⟩ := lessA_ok hs hb hx hy
        have hlt' : ¬ p < q := by simpa using hlt.symm
        obtain ⟨v', e1, e2⟩ := max_ok hs h hx hl
        exact ⟨v', by simp [List.foldlM, Builtin.max2, hlt', e1], e2⟩
      · cases h

theorem clear_ok (ok : TyOk E) (h : Rel E γ N H.bs.get w) {t ty : TypeId} {x : AV} {xv : Value} (hx : VR γ x xv) {r : R} (hr : clearX E t x H = some r) : Does E γ N H w (asNext (Builtin.clear_ #[t] ty #[xv])) r := by
  unfold clearX at hr
  cases ht : E.ty.get t with
  | none => simp [ht] at hr
  | some i =>
    obtain ⟨info, d, h1, h2, rfl⟩ := tiOf_ok (ok.ty ht)
    simp only [ht] at hr
    split at hr
    · rename_i e hk
      obtain rfl := kind_slice hk
      cases he : E.ty.get e with
      | none => simp [he] at hr
      | some ie =>
        obtain ⟨einfo, ed, g1, g2, rfl⟩ := tiOf_ok (ok.ty he)
        simp only [he] at hr
        split at hr
        · cases hx
          simp only [Option.some.injEq] at hr; subst hr
          exact does_val h (run_asNext (v := .tuple #[]) (by simp [Builtin.clear_, run_underlying h2])) (.tup .nil)
        · rename_i z b o n es full hz
          split at hr
          · rename_i hc
            obtain ⟨rfl, hzl⟩ := hc
            obtain ⟨hfl, zv, hz1, hz2⟩ := zeroOf_ok hz
            cases hs : storeA H b o (replA z n) with
            | none => simp [hs] at hr
            | some H' =>
              simp only [hs, Option.some.injEq] at hr
              subst hr
              have hzc := absCells_ok (γ := γ) hz2
              have hzs : zv.cells.size = einfo.size := by have := hzc.length; simp only [Array.length_toList] at this; omega
              have hrep := repl_ok hzc n
              obtain ⟨β, ω, σ, e1, e2, e3, e4, e5, e6, e7⟩ := storeA_ok h hs hrep
              cases hx with
              | slice hloc hlen hfull haddr hfit =>
                rw [hloc] at e1
                simp only [Option.some.injEq, Prod.mk.injEq] at e1
                obtain ⟨rfl, rfl, rfl⟩ := e1
                rename_i β ω σ cap A
                refine ⟨.tuple #[], _, γ, run_asNext ?_, .tup .nil, e6, e7⟩
                have hrun : (storeCells ⟨β, ω + o, none⟩ (madeCells zv.cells (n * zv.cells.size)).toList).run E.P w = .ok () (w.setCells β (ω + o) (madeCells zv.cells (n * zv.cells.size)).toList) :=
                  run_storeCells_cells (P := E.P) β (ω + o) _ 0 w (fun j hj => (e5 j hj).1) (fun j hj => (e5 j hj).2) e4
                cases n with
                | zero =>
                  have : (madeCells zv.cells (0 * zv.cells.size)).toList = [] := by simp [madeCells]
                  rw [this]
                  simp [Builtin.clear_, run_underlying h2, World.setCells]
                | succ n =>
                  obtain rfl := haddr (by omega)
                  have hmz : Builtin.zeroCells zv.cells (n + 1) = madeCells zv.cells ((n + 1) * zv.cells.size) := rfl
                  simp [Builtin.clear_, run_underlying h2, zeroValue, typeInfo, g1, hz1, hmz, hrun]
          · cases hr
        · cases hr
    · cases hr
end
end Go.Proofs.YteopodohghnokaaGreatDoor.Ex
end
section
namespace Go.Proofs.YteopodohghnokaaGreatDoor.Ex
open Go
set_option linter.unusedVariables false
set_option linter.unusedSimpArgs false
section
variable {E : Env} {γ : Cx} {N : Nat} {H : AH} {w : World} {F : Fr} {a : Act}

theorem builtin_ok (ok : TyOk E) (h : Rel E γ N H.bs.get w) (hN : N ≤ w.heap.size) {b : Builtin} {ts : Array TypeId} {ty : TypeId} {cs : Array Bool} {xs : List AV} {vs : List Value} (hv : VRs γ xs vs) {r : R} (hr : builtinX E b ts xs H = some r)
    (hf : ∀ id, H.n ≤ id → id < r.n → γ.loc id = none) : Does E γ N H w (Go.builtin b ts ty cs vs.toArray) r := by
  have two : ∀ {t u : TypeId}, ts.toList = [t, u] → ts = #[t, u] := fun {t u} e => by
    cases ts; simp only at e; subst e; rfl
  have one : ∀ {t : TypeId}, ts.toList = [t] → ts = #[t] := fun {t} e => by
    cases ts; simp only at e; subst e; rfl
  cases b <;> simp only [builtinX] at hr <;> try (cases hr; done)
  · -- append
    split at hr
    · rename_i t u s x ht
      cases hv with
      | cons h1 hv => cases hv with
        | cons h2 hv => cases hv; rw [two ht]; exact append_ok ok h hN h1 h2 hr hf
    · cases hr
  · -- cap
    split at hr
    · rename_i t x ht
      split at hr
      · rename_i n hn
        simp only [Option.some.injEq] at hr
        subst hr
        cases hv with
        | cons h1 hv => cases hv; exact does_val h (run_asNext (cap_ok ok hn h1 ts ht)) (.int _ _)
      · cases hr
    · cases hr
  · -- clear
    split at hr
    · rename_i t x ht
      cases hv with
      | cons h1 hv => cases hv; rw [one ht]; exact clear_ok ok h h1 hr
    · cases hr
  · -- len
    split at hr
    · rename_i t x ht
      split at hr
      · rename_i n hn
        simp only [Option.some.injEq] at hr
        subst hr
        cases hv with
        | cons h1 hv => cases hv; exact does_val h (run_asNext (len_ok ok hn h1 ts ht)) (.int _ _)
      · cases hr
    · cases hr
  · -- max
    split at hr
    · obtain ⟨v, hv', rfl⟩ := vR_some hr
      cases hv with
      | cons h1 hv =>
        obtain ⟨v', e1, e2⟩ := max_ok (w := w) h.symOk hv' h1 hv
        exact does_val h (run_asNext (by simpa [Builtin.max_] using e1)) e2
    · cases hr
  · -- min
    split at hr
    · obtain ⟨v, hv', rfl⟩ := vR_some hr
      cases hv with
      | cons h1 hv =>
        obtain ⟨v', e1, e2⟩ := min_ok (w := w) h.symOk hv' h1 hv
        exact does_val h (run_asNext (by simpa [Builtin.min_] using e1)) e2
    · cases hr

theorem callX_ok (ok : TyOk E) (h : Rel E γ N H.bs.get w) (hN : N ≤ w.heap.size) (hF : FRel γ F a) {c : Call} {ty : TypeId} {r : R} (hr : callX E F c H = some r)
    (hf : ∀ id, H.n ≤ id → id < r.n → γ.loc id = none) : Does E γ N H w (do let d ← resolve a.eval c ty; invoke d.target d.args) r := by
  unfold callX at hr
  cases hx : opsA F c.args.toList with
  | none => simp [hx] at hr
  | some xs =>
    simp only [hx] at hr
    have hxs := opsA_ok hF hx
    have hargs : c.args.map a.eval = (c.args.toList.map a.eval).toArray := by apply Array.ext'; simp
    split at hr
    · rename_i f hc
      cases hfv : opA F f with
      | none => simp [hfv] at hr
      | some fv =>
        simp only [hfv] at hr
        have hp := opA_ok hF hfv
        unfold callA at hr
        split at hr
        · rename_i g first cap
          simp only [Option.some.injEq] at hr
          subst hr
          generalize hg : a.eval f = gv at hp
          cases hp with
          | func h1 h2 =>
            rename_i first' cap'
            refine ⟨rfl, first'.toList ++ c.args.toList.map a.eval ++ cap'.toList, (h1.append hxs).append h2, ?_⟩
            have e : first' ++ (Array.map a.eval c.args ++ cap') = (first'.toList ++ (List.map a.eval c.args.toList ++ cap'.toList)).toArray := by apply Array.ext'; simp
            simp [resolve, hc, hg, Deferred.ofValue, invoke, e]
        · cases hr
    · cases hr
    · rename_i b hc
      have := builtin_ok (ty := ty) (cs := c.args.map fun | .const _ => true | _ => false) ok h hN hxs hr hf
      rw [← hargs] at this
      have e : (do let d ← resolve a.eval c ty; invoke d.target d.args) = Go.builtin b c.argTypes ty (c.args.map fun | .const _ => true | _ => false) (c.args.map a.eval) := by
        simp only [resolve, hc, pure_bind, invoke]
        rfl
      rw [e]
      exact this

theorem exOp_ok (ok : TyOk E) (h : Rel E γ N H.bs.get w) (hN : N ≤ w.heap.size) (hF : FRel γ F a) {o : Oper} {r : R} (hr : exOp E F o.op H = some r)
    (hf : ∀ id, H.n ≤ id → id < r.n → γ.loc id = none) : Does E γ N H w (execOp a.eval o) r := by
  cases ho : o.op <;> rw [ho] at hr <;> simp only [exOp] at hr <;> try (cases hr; done)
  all_goals simp only [execOp, ho]
  · exact move_ok h hF hr rfl
  · exact move_ok h hF hr rfl
  · exact pick_ok h hF hr
  · exact alloc_ok ok h hN hr hf
  · exact box_ok h hN hF hr hf
  · exact build_ok ok h hF hr
  · exact buildSlice_ok ok h hN hF hr hf (by simp)
  · exact load_ok ok h hF hr
  · exact store_ok ok h hF hr
  · have := nilCheck_ok h hF hr (o := o) ho
    simpa only [execOp, ho] using this
  · exact bin_ok ok h hF hr
  · exact un_ok ok h hF hr
  · exact conv_ok ok h hN hF hr hf
  · exact iface_ok ok h hF hr
  · split at hr
    · exact func_ok h hF hr
    · cases hr
  · exact makeSlice_ok ok h hN hF hr hf
  · exact slice_ok ok h hF hr
  · exact fieldAddr_ok ok h hF hr
  · exact field_ok ok h hF hr
  · exact indexAddr_ok ok h hF hr
  · exact index_ok ok h hF hr
  · exact assert_ok ok h hF hr
  · exact extract_ok h hF hr
  · exact callX_ok ok h hN hF hr hf
end
end Go.Proofs.YteopodohghnokaaGreatDoor.Ex
end
section
namespace Go.Proofs.YteopodohghnokaaGreatDoor.Ex
open Go
set_option linter.unusedVariables false
set_option linter.unusedSimpArgs false

/-- A call, and what becomes of it; some of Go's functions answer at once. -/
def CallWp (P : Program) (f : FuncId) (args : List Value) (w : World) (K : Value → World → Prop) : Prop :=
  match (callFunc f args.toArray).run P w with
  | .ok (.value v) w' => K v w'
  | .ok (.enter g as) w' => Calls P g as w' fun e w'' => ∃ v, e = .returned v ∧ K v w''
  | _ => False
def CallOk (E : Env) (call : CallF) : Prop :=
  ∀ {f : FuncId} {args : List AV} {H H' : AH} {v : AV}, call f args H = some (v, H') → ∀ {γ : Cx} {N : Nat} {w : World} {args' : List Value}, Rel E γ N H.bs.get w → N ≤ w.heap.size → VRs γ args args' →
    (∀ id, H.n ≤ id → id < H'.n → γ.loc id = none) → CallWp E.P f args' w fun v' w' => ∃ γ', VR γ' v v' ∧ Rel E γ' N H'.bs.get w' ∧ Nxt γ H.bs.get w H.n γ' H'.bs.get w' H'.n

/-- The fence that lets all in, in a round or out of one. -/
abbrev rd (ρ : Option Nat) : Fence := { Fence.wide with round := ρ }
/-- What an activation has to do at its end: nothing but shut what loops over functions have laid; that is none of the runner's memory. -/
def IsQuiet (Z : FuncId → Bool) (d : Deferred) : Prop := ∃ g x, Z g = true ∧ d = { target := .fn (.func g) #[x], args := #[] }
/-- A function that does nothing where it is deferred and nothing has failed. -/
def QuietFn (P : Program) (g : FuncId) : Prop := ∀ (x : Value) (w : World), (callFunc g #[x]).run P w = .ok (.enter g #[x]) w ∧ CallsDIn Fence.wide 0 P g #[x] .returning w fun e u w' => (∃ v, e = .returned v) ∧ u = .returning ∧ w' = w
structure Marks (Z : FuncId → Bool) (B : Nat) (γ : Cx) (H : HM) (a : Act) (w : World) : Prop where
  base : B ≤ w.heap.size
  nd : a.defers.Pairwise fun d d' => d = d' → IsQuiet Z d
  each : ∀ d ∈ a.defers, IsQuiet Z d ∨ ∃ D, d = { target := .collected D, args := #[] } ∧ B ≤ D ∧ w.heap[D]? = some (.deferred (some [])) ∧ ∀ id k l, H id = some k → γ.loc id = some l → l.1 ≠ D
structure SR (E : Env) (γ : Cx) (N B nt : Nat) (F : Fr) (H : HM) (a : Act) (w : World) : Prop where
  rel : Rel E γ N H w
  fr : FRel γ F a
  low : N ≤ w.heap.size
  size : nt ≤ a.tmps.size
  defs : Marks E.quiet B γ H a w

section
variable {E : Env} {γ : Cx} {N B nt : Nat} {w : World} {F : Fr} {a : Act} {ρ : Option Nat}

theorem Marks.none {Z : FuncId → Bool} {H : HM} (hb : B ≤ w.heap.size) (h : a.defers = []) : Marks Z B γ H a w := ⟨hb, by rw [h]; exact .nil, fun d hd => by rw [h] at hd; cases hd⟩
theorem Marks.less {Z : FuncId → Bool} {H H' : HM} (h : Marks Z B γ H a w) (hs : ∀ id k, H' id = some k → H id = some k) : Marks Z B γ H' a w :=
  ⟨h.base, h.nd, fun d hd => (h.each d hd).imp id fun ⟨D, a, b, c, e⟩ => ⟨D, a, b, c, fun id k l x y => e id k l (hs _ _ x) y⟩⟩
theorem Marks.next {H H' : HM} {γ' : Cx} {w' : World} {n n' : Nat} {a' : Act} {Z : FuncId → Bool} (h : Marks Z B γ H a w) (hx : Nxt γ H w n γ' H' w' n') (he : a'.defers = a.defers) : Marks Z B γ' H' a' w' :=
  ⟨Nat.le_trans h.base hx.size, by rw [he]; exact h.nd, fun d hd => by
    rw [he] at hd
    refine (h.each d hd).imp id fun ⟨D, h1, h2, h3, h4⟩ => ?_
    have hlt : D < w.heap.size := (Array.getElem?_eq_some_iff.1 h3).1
    refine ⟨D, h1, h2, (hx.keep D hlt h4).trans h3, fun id k l hk hl e => ?_⟩
    rcases hx.img hk hl with q | ⟨j, k0, l0, x, y, z⟩
    · omega
    · exact h4 j k0 l0 x y (z.trans e)⟩

theorem tmpA_set (F : Fr) (t s : Tmp) (v : AV) : tmpA (F.set t v) s = if t = s then v else tmpA F s := by
  unfold tmpA
  rw [Tr.get_set]
  by_cases h : t = s
  · rw [if_pos h, if_pos h]
  · rw [if_neg h, if_neg h]
theorem getD_set (x : Array Value) (t s : Nat) (v : Value) : (x.setIfInBounds t v).getD s undef = if t = s ∧ t < x.size then v else x.getD s undef := by
  simp only [Array.getD_eq_getD_getElem?, Array.getElem?_setIfInBounds]
  by_cases h : t = s
  · subst h
    by_cases h2 : t < x.size
    · simp [h2]
    · simp [h2]
  · simp [h]
theorem FRel.mono {γ' : Cx} (h : FRel γ F a) (hg : γ.Le γ') : FRel γ' F a := fun t => (h t).mono hg
theorem put_ok (hF : FRel γ F a) {d : Option Tmp} {v : AV} {v' : Value} (hv : VR γ v v') {F' : Fr} (h : putA nt F d v = some F') (hs : nt ≤ a.tmps.size) : FRel γ F' (a.put d v') := by
  unfold putA at h
  cases d with
  | none => simp only [Option.some.injEq] at h; subst h; exact hF
  | some t =>
    simp only at h
    split at h
    · rename_i ht
      simp only [Option.some.injEq] at h; subst h
      intro s
      rw [tmpA_set]
      simp only [Act.put]
      rw [getD_set]
      by_cases e : t = s
      · rw [if_pos e, if_pos ⟨e, Nat.lt_of_lt_of_le ht hs⟩]; exact hv
      · rw [if_neg e, if_neg (fun q => e q.1)]; exact hF s
    · cases h
theorem put_size (d : Option Tmp) (v : Value) : (a.put d v).tmps.size = a.tmps.size := by cases d <;> simp [Act.put]
theorem put_defers (d : Option Tmp) (v : Value) : (a.put d v).defers = a.defers := by cases d <;> rfl

theorem undef_ok : VR γ (.tup []) undef := .tup .nil

/-- A guard reads as the machine's. -/
theorem wanted_ok (hF : FRel γ F a) {ops : Array Oper} {o : Oper} {b : Bool} (h : wantedA ops F o = some b) : Region.wanted o (yielded ops a.tmps) = b := by
  unfold wantedA at h
  unfold Region.wanted
  cases hg : o.guard with
  | none => simp only [hg, Option.some.injEq] at h; exact h
  | some q =>
    obtain ⟨j, want⟩ := q
    simp only [hg] at h ⊢
    unfold yielded
    cases hj : ops[j]? with
    | none => simp only [hj, Option.some.injEq] at h; subst h; rfl
    | some g =>
      simp only [hj] at h
      simp only [Option.bind_some]
      cases hd : g.dst with
      | none => simp only [hd, Option.some.injEq] at h; subst h; rfl
      | some t =>
        simp only [hd] at h
        simp only [Option.bind_some]
        have hr := hF t
        have hget : ∀ v, a.tmps.getD t undef = v → v ≠ undef → a.tmps[t]? = some v := fun v e hne => by
          rw [Array.getD_eq_getD_getElem?] at e
          cases hx : a.tmps[t]? with
          | none => rw [hx] at e; exact absurd e.symm hne
          | some u => rw [hx] at e; simp at e; rw [e]
        split at h
        · rename_i c hc
          rw [hc] at hr
          simp only [Option.some.injEq] at h
          subst h
          generalize hv : a.tmps.getD t undef = v at hr
          cases hr
          rw [hget _ hv (by simp [undef])]
          cases c <;> cases want <;> rfl
        · rename_i l hc
          rw [hc] at hr
          simp only [Option.some.injEq] at h
          subst h
          generalize hv : a.tmps.getD t undef = v at hr
          cases hr
          rename_i l' hl
          cases hx : a.tmps[t]? with
          | none => rfl
          | some u =>
            rw [Array.getD_eq_getD_getElem?, hx] at hv
            simp at hv
            subst hv
            rfl
        · cases h

/-- An operation that calls leaves memory alone. -/
theorem exOp_call {o : Op} {H : AH} {f : FuncId} {args : List AV} {H' : AH} (h : exOp E F o H = some (.call f args H')) : H' = H := by
  have hv : ∀ x, vR H x ≠ some (.call f args H') := fun x e => by obtain ⟨v, _, e2⟩ := vR_some e; cases e2
  have hn : ∀ l v, newR H l v ≠ some (.call f args H') := fun l v e => by obtain ⟨v, _, e2⟩ := newR_some e; cases e2
  cases o <;> simp only [exOp] at h <;> try (cases h; done)
  case call c =>
    unfold callX at h
    split at h
    · cases h
    · split at h
      · split at h
        · unfold callA at h
          split at h
          · simp only [Option.some.injEq, R.call.injEq] at h; exact h.2.2.symm
          · cases h
        · cases h
      · cases h
      · exfalso
        rename_i b _
        cases b <;> simp only [builtinX] at h <;> try (cases h; done)
        all_goals
          first
            | (split at h
               · first
                  | exact hv _ h
                  | (unfold appendA at h; (repeat' (split at h)) <;> first | (cases h; done) | (unfold appendE growA at h; (repeat' (split at h)) <;> first | (cases h; done) | (simp at h; done)) | (unfold zerosA at h; (repeat' (split at h)) <;> first | (cases h; done) | (simp at h; done)))
                  | (unfold clearX at h; (repeat' (split at h)) <;> first | (cases h; done) | (simp at h; done))
                  | (split at h <;> first | (cases h; done) | (simp at h; done))
               · cases h)
  all_goals exfalso
  all_goals first
    | exact hv _ h
    | (unfold pickX at h; (repeat' (split at h)) <;> first | (cases h; done) | exact hv _ h)
    | (unfold allocX at h; (repeat' (split at h)) <;> first | (cases h; done) | exact hn _ _ h)
    | (unfold boxX at h; (repeat' (split at h)) <;> first | (cases h; done) | exact hn _ _ h)
    | (unfold buildX fillR at h; (repeat' (split at h)) <;> first | (cases h; done) | (simp at h; done))
    | (unfold buildSliceX at h; (repeat' (split at h)) <;> first | (cases h; done) | exact hn _ _ h)
    | (unfold loadX at h; (repeat' (split at h)) <;> first | (cases h; done) | exact hv _ h)
    | (unfold storeX at h; (repeat' (split at h)) <;> first | (cases h; done) | (simp at h; done))
    | (unfold nilCheckX at h; (repeat' (split at h)) <;> first | (cases h; done) | (simp at h; done))
    | (unfold binX at h; (repeat' (split at h)) <;> first | (cases h; done) | exact hv _ h)
    | (unfold unX at h; (repeat' (split at h)) <;> first | (cases h; done) | exact hv _ h)
    | (unfold convX convA convI convB convS at h; (repeat' (split at h)) <;> first | (cases h; done) | (simp at h; done))
    | (unfold ifaceX at h; (repeat' (split at h)) <;> first | (cases h; done) | (simp at h; done))
    | (unfold funcX at h; (repeat' (split at h)) <;> first | (cases h; done) | (simp at h; done))
    | (unfold makeSliceX at h; (repeat' (split at h)) <;> first | (cases h; done) | exact hn _ _ h)
    | (unfold sliceX at h; (repeat' (split at h)) <;> first | (cases h; done) | exact hv _ h)
    | (unfold fieldAddrX at h; (repeat' (split at h)) <;> first | (cases h; done) | (simp at h; done))
    | (unfold fieldX at h; (repeat' (split at h)) <;> first | (cases h; done) | exact hv _ h)
    | (unfold indexAddrX at h; (repeat' (split at h)) <;> first | (cases h; done) | (simp at h; done))
    | (unfold indexX at h; (repeat' (split at h)) <;> first | (cases h; done) | (simp at h; done) | exact hv _ h)
    | (unfold assertX at h; (repeat' (split at h)) <;> first | (cases h; done) | (simp at h; done))
    | (unfold extractX at h; (repeat' (split at h)) <;> first | (cases h; done) | exact hv _ h)
    | (split at h <;> first | (cases h; done) | (unfold funcX at h; (repeat' (split at h)) <;> first | (cases h; done) | (simp at h; done)))

/-- One wanted operation. -/
theorem wp_of_fin {call : CallF} (hcall : CallOk E call) (ok : TyOk E) {H : AH} {o : Oper} (hs : SR E γ N B nt F H.bs.get a w) {r : R} (hr : exOp E F o.op H = some r) {s : St} (hfin : finA call nt F o.dst r = some s)
    (hf : ∀ id, H.n ≤ id → id < s.H.n → γ.loc id = none) {next : Act → World → Prop} {Q : Exit → Act → World → Prop}
    (K : ∀ γ' v v' w', VR γ' v v' → putA nt F o.dst v = some s.F → Rel E γ' N s.H.bs.get w' → Nxt γ H.bs.get w H.n γ' s.H.bs.get w' s.H.n → next (a.put o.dst v') w') : o.wpIn (rd ρ) 0 E.P a w next Q := by
  have hsem : o.semAt ρ a.eval = execOp a.eval o := by
    cases ρ with
    | none => exact Oper.semAt_none _ _
    | some l => exact Oper.semAt_some l _ _ (fun c q => by rw [q] at hr; simp [exOp] at hr)
  refine ⟨fun _ _ => trivial, ?_⟩
  show o.uponIn (rd ρ) 0 E.P a next Q ((o.semAt ρ a.eval).run E.P w)
  rw [hsem]
  unfold finA at hfin
  cases r with
  | val v H' =>
    simp only at hfin
    cases hp : putA nt F o.dst v with
    | none => simp [hp] at hfin
    | some F' =>
      simp only [hp, Option.some.injEq] at hfin
      subst hfin
      obtain ⟨v', w', γ', h1, h2, h3, h4⟩ := exOp_ok ok hs.rel hs.low hs.fr hr hf
      rw [h1]
      exact K γ' v v' w' h2 hp h3 h4
  | skip H' =>
    simp only at hfin
    cases hp : putA nt F o.dst (.tup []) with
    | none => simp [hp] at hfin
    | some F' =>
      simp only [hp, Option.some.injEq] at hfin
      subst hfin
      obtain ⟨w', γ', h1, h3, h4⟩ := exOp_ok ok hs.rel hs.low hs.fr hr hf
      rw [h1]
      exact K γ' (.tup []) undef w' undef_ok hp h3 h4
  | call f args H' =>
    simp only at hfin
    cases hc : call f args H' with
    | none => simp [hc] at hfin
    | some q =>
      obtain ⟨v, H''⟩ := q
      simp only [hc] at hfin
      cases hp : putA nt F o.dst v with
      | none => simp [hp] at hfin
      | some F' =>
        simp only [hp, Option.some.injEq] at hfin
        subst hfin
        have hop := exOp_ok (E := E) (γ := γ) (N := N) (w := w) (a := a) (o := o) ok hs.rel hs.low hs.fr hr (fun id h1 h2 => by
          have := exOp_call hr
          subst this
          simp only [R.n] at h2
          omega)
        obtain ⟨rfl, args', h1, h2⟩ := hop
        have := hcall hc hs.rel hs.low h1 hf
        unfold CallWp at this
        rw [h2]
        split at this
        · rename_i v' w' he
          rw [he]
          obtain ⟨γ', k1, k2, k3⟩ := this
          exact K γ' v v' w' k1 hp k2 k3
        · rename_i g as w' he
          rw [he]
          simp only [Oper.uponIn_enter]
          refine ⟨fun q => (by cases q), ?_⟩
          show CallsIn Fence.wide (0 - 1) E.P g as w' _
          refine (callsIn_wide.2 this).mono ?_
          rintro e w'' ⟨v', rfl, γ', k1, k2, k3⟩
          exact K γ' v v' w'' k1 hp k2 k3
        · exact this.elim
end
end Go.Proofs.YteopodohghnokaaGreatDoor.Ex
end
section
namespace Go.Proofs.YteopodohghnokaaGreatDoor.Ex
open Go
set_option linter.unusedVariables false
set_option linter.unusedSimpArgs false

theorem new_num {H H' : AH} {l : List AV} (h : H.new l = some H') : H.n ≤ H'.n := by rw [(AH.new_ok h).1]; omega
theorem store_num {H H' : AH} {b o : Nat} {l : List AV} (h : storeA H b o l = some H') : H'.n = H.n := by
  unfold storeA at h
  split at h
  · split at h
    · simp only [Option.some.injEq] at h; subst h; rfl
    · cases h
  · cases h

section
variable {E : Env} {γ : Cx} {N nt : Nat} {w : World} {F : Fr} {a : Act}

theorem exOp_num {o : Op} {H : AH} {r : R} (h : exOp E F o H = some r) : H.n ≤ r.n := by
  have hv : ∀ {x}, vR H x = some r → H.n ≤ r.n := fun e => by obtain ⟨v, _, rfl⟩ := vR_some e; exact Nat.le_refl _
  have hn : ∀ {l v}, newR H l v = some r → H.n ≤ r.n := fun e => by obtain ⟨H', e1, rfl⟩ := newR_some e; exact new_num e1
  have he : ∀ {v}, some (R.val v H) = some r → H.n ≤ r.n := fun e => by simp only [Option.some.injEq] at e; subst e; exact Nat.le_refl _
  have h1 : ∀ {v H'}, H.n ≤ H'.n → some (R.val v H') = some r → H.n ≤ r.n := fun q e => by simp only [Option.some.injEq] at e; subst e; exact q
  cases o <;> simp only [exOp] at h <;> try (cases h; done)
  case call c =>
    unfold callX at h
    split at h
    · cases h
    · split at h
      · split at h
        · unfold callA at h
          split at h
          · simp only [Option.some.injEq] at h; subst h; exact Nat.le_refl _
          · cases h
        · cases h
      · cases h
      · rename_i b _
        cases b <;> simp only [builtinX] at h <;> try (cases h; done)
        · split at h
          · unfold appendA at h
            split at h
            · split at h
              · split at h
                · split at h
                  · unfold zerosA at h
                    split at h
                    · split at h
                      · split at h
                        · split at h
                          · rename_i hnw; exact h1 (new_num hnw) h
                          · cases h
                        · cases h
                      · cases h
                    · cases h
                  · split at h
                    · cases h
                    · unfold appendE at h
                      split at h
                      · split at h <;> first | exact he h | cases h
                      · split at h
                        · cases h
                        · split at h
                          · split at h
                            · split at h
                              · split at h
                                · rename_i hnw; exact h1 (new_num hnw) h
                                · cases h
                              · cases h
                            · split at h
                              · unfold growA at h
                                split at h
                                · cases h
                                · split at h
                                  · split at h
                                    · exact h1 (by simp only; omega) h
                                    · split at h
                                      · exact h1 (by simp only; omega) h
                                      · cases h
                                  · cases h
                              · cases h
                            · cases h
                          · cases h
                · cases h
              · cases h
            · cases h
          · cases h
        · split at h
          · split at h
            · exact he h
            · cases h
          · cases h
        · split at h
          · unfold clearX at h
            split at h
            · split at h
              · split at h
                · split at h
                  · exact he h
                  · split at h
                    · split at h
                      · rename_i hs; exact h1 (by rw [store_num hs]; exact Nat.le_refl _) h
                      · cases h
                    · cases h
                  · cases h
                · cases h
              · cases h
            · cases h
          · cases h
        · split at h
          · split at h
            · exact he h
            · cases h
          · cases h
        · split at h
          · exact hv h
          · cases h
        · split at h
          · exact hv h
          · cases h
  case store t x y =>
    unfold storeX at h
    split at h
    · split at h
      · split at h
        · split at h
          · rename_i hs
            simp only [Option.some.injEq] at h; subst h
            simp only [R.n]; rw [store_num hs]; exact Nat.le_refl _
          · cases h
        · cases h
      · cases h
    · cases h
  case convert s d x =>
    unfold convX at h
    split at h
    · unfold convA at h
      split at h
      · cases h
      · split at h
        · cases h
        · split at h
          · unfold convI at h
            split at h
            · exact he h
            · split at h
              · exact he h
              · cases h
            · cases h
          · split at h
            · unfold convB at h
              split at h
              · split at h
                · split at h
                  · split at h
                    · rename_i hnw; exact h1 (new_num hnw) h
                    · cases h
                  · cases h
                · cases h
              · cases h
            · cases h
          · unfold convS at h
            split at h
            · exact he h
            · split at h
              · split at h
                · split at h
                  · exact he h
                  · split at h
                    · split at h
                      · exact he h
                      · cases h
                    · cases h
                  · cases h
                · cases h
              · cases h
          · cases h
    · cases h
  all_goals first
    | exact hv h
    | (unfold pickX at h; (repeat' (split at h)) <;> first | (cases h; done) | exact hv h)
    | (unfold allocX at h; (repeat' (split at h)) <;> first | (cases h; done) | exact hn h)
    | (unfold boxX at h; (repeat' (split at h)) <;> first | (cases h; done) | exact hn h)
    | (unfold buildX fillR at h; (repeat' (split at h)) <;> first | (cases h; done) | exact he h)
    | (unfold buildSliceX at h; (repeat' (split at h)) <;> first | (cases h; done) | exact hn h)
    | (unfold loadX at h; (repeat' (split at h)) <;> first | (cases h; done) | exact hv h)
    | (unfold nilCheckX at h; (repeat' (split at h)) <;> first | (cases h; done) | exact he h)
    | (unfold binX at h; (repeat' (split at h)) <;> first | (cases h; done) | exact he h | exact hv h)
    | (unfold unX at h; (repeat' (split at h)) <;> first | (cases h; done) | exact hv h)
    | (unfold ifaceX at h; (repeat' (split at h)) <;> first | (cases h; done) | exact he h)
    | (unfold makeSliceX at h; (repeat' (split at h)) <;> first | (cases h; done) | exact hn h)
    | (unfold sliceX at h; (repeat' (split at h)) <;> first | (cases h; done) | exact hv h)
    | (unfold fieldAddrX at h; (repeat' (split at h)) <;> first | (cases h; done) | exact he h)
    | (unfold fieldX at h; (repeat' (split at h)) <;> first | (cases h; done) | exact hv h)
    | (unfold indexAddrX at h; (repeat' (split at h)) <;> first | (cases h; done) | exact he h)
    | (unfold indexX at h; (repeat' (split at h)) <;> first | (cases h; done) | exact he h | exact hv h)
    | (unfold assertX at h; (repeat' (split at h)) <;> first | (cases h; done) | exact he h)
    | (unfold extractX at h; (repeat' (split at h)) <;> first | (cases h; done) | exact hv h)
    | (split at h <;> first | (cases h; done) | (unfold funcX at h; (repeat' (split at h)) <;> first | (cases h; done) | exact he h))

def NumOk (call : CallF) : Prop := ∀ {f : FuncId} {as : List AV} {H H' : AH} {v : AV}, call f as H = some (v, H') → H.n ≤ H'.n

theorem finA_num {call : CallF} (hnum : NumOk call) {o : Op} {H : AH} {nt : Nat} {d : Option Tmp} {r : R} {s : St} (ho : exOp E F o H = some r) (h : finA call nt F d r = some s) : H.n ≤ s.H.n := by
  have := exOp_num ho
  unfold finA at h
  cases r with
  | val v H' =>
    simp only at h
    split at h
    · simp only [Option.some.injEq] at h; subst h; exact this
    · cases h
  | skip H' =>
    simp only at h
    split at h
    · simp only [Option.some.injEq] at h; subst h; exact this
    · cases h
  | call f as H' =>
    simp only at h
    split at h
    · rename_i v H'' hc
      split at h
      · simp only [Option.some.injEq] at h; subst h; exact Nat.le_trans this (hnum hc)
      · cases h
    · cases h
theorem exOne_num {call : CallF} (hnum : NumOk call) {ops : Array Oper} {o : Oper} {H : AH} {s : St} (h : exOne E call nt ops o F H = some s) : H.n ≤ s.H.n := by
  unfold exOne at h
  split at h
  · split at h
    · rename_i r hr
      exact finA_num hnum hr h
    · cases h
  · split at h
    · simp only [Option.some.injEq] at h; subst h; exact Nat.le_refl _
    · cases h
  · cases h
theorem exList_num {call : CallF} (hnum : NumOk call) {ops : Array Oper} : ∀ {l : List Oper} {F : Fr} {H : AH} {s : St}, exList E call nt ops l F H = some s → H.n ≤ s.H.n
  | [], F, H, s, h => by simp only [exList, Option.some.injEq] at h; subst h; exact Nat.le_refl _
  | o :: l, F, H, s, h => by
    simp only [exList] at h
    split at h
    · rename_i s1 h1
      exact Nat.le_trans (exOne_num hnum h1) (exList_num hnum h)
    · split at h
      · exact exList_num hnum h
      · cases h
theorem exDraw_num {call : CallF} (hnum : NumOk call) {ops : Array Oper} : ∀ {l : List (Nat × Nat)} {F : Fr} {H : AH} {past : List AH} {ini : Tr Blk} {s : St}, exDraw E call nt ops l F H past ini = some s → H.n ≤ s.H.n
  | [], F, H, past, ini, s, h => by simp only [exDraw, Option.some.injEq] at h; subst h; exact Nat.le_refl _
  | (i, d) :: l, F, H, past, ini, s, h => by
    simp only [exDraw] at h
    split at h
    · cases h
    · split at h
      · cases h
      · rename_i s1 h1
        refine Nat.le_trans (exOne_num hnum h1) ?_
        split at h
        · exact exDraw_num hnum h
        · exact exDraw_num hnum h
        · exact exDraw_num hnum h
        · split at h
          · exact exDraw_num hnum h
          · split at h
            · exact exDraw_num hnum h
            · cases h
theorem exTail_num {call : CallF} (hnum : NumOk call) {ops : Array Oper} {p q r : Oper} {F : Fr} {H : AH} {s : St} (h : exTail E call nt ops p q r F H = some s) : H.n ≤ s.H.n := by
  unfold exTail at h
  split at h
  · cases h
  · rename_i s1 h1
    split at h
    · split at h
      · cases h
      · split at h
        · cases h
        · rename_i s2 h2
          exact Nat.le_trans (exOne_num hnum h1) (Nat.le_trans (exOne_num hnum h2) (exOne_num hnum h))
    · cases h
theorem exReg_num {call : CallF} (hnum : NumOk call) {ops : Array Oper} {draw : Bool} {F : Fr} {H : AH} {s : St} (h : exReg E call nt ops draw F H = some s) : H.n ≤ s.H.n := by
  unfold exReg at h
  split at h
  · exact exList_num hnum h
  · split at h
    · exact exDraw_num hnum h
    · split at h
      · split at h
        · rename_i s1 h1
          exact Nat.le_trans (exDraw_num hnum h1) (exTail_num hnum h)
        · cases h
      · cases h
theorem exI_num {call : CallF} (hnum : NumOk call) {rounds : RoundF} (hr : ∀ {xs H e H'}, rounds xs H = some (e, H') → H.n ≤ H'.n) {ops : Array Oper} {y : Nat} {o : Oper} {s s' : IS} (h : exIOne E call rounds nt y ops o s = some s') : s.H.n ≤ s'.H.n := by
  unfold exIOne at h
  split at h
  · rename_i s1 h1
    simp only [Option.some.injEq] at h
    rw [← h]
    exact exOne_num hnum h1
  · unfold yieldX at h
    split at h
    · split at h
      · split at h
        · split at h
          · split at h
            · split at h
              · rename_i e H' h2
                split at h
                · simp only [Option.some.injEq] at h
                  rw [← h]
                  exact hr h2
                · cases h
              · cases h
            · cases h
          · cases h
        · cases h
      · cases h
    · cases h
theorem exIList_num {call : CallF} (hnum : NumOk call) {rounds : RoundF} (hr : ∀ {xs H e H'}, rounds xs H = some (e, H') → H.n ≤ H'.n) {ops : Array Oper} {y : Nat} : ∀ {l : List Oper} {s s' : IS}, exIList E call rounds nt y ops l s = some s' → s.H.n ≤ s'.H.n
  | [], s, s', h => by simp only [exIList, Option.some.injEq] at h; rw [h]; exact Nat.le_refl _
  | o :: l, s, s', h => by
    simp only [exIList] at h
    split at h
    · rename_i s1 h1
      exact Nat.le_trans (exI_num hnum hr h1) (exIList_num hnum hr h)
    · cases h
theorem exIC_num {call : CallF} (hnum : NumOk call) {rounds : RoundF} (hr : ∀ {xs H e H'}, rounds xs H = some (e, H') → H.n ≤ H'.n) {y : Nat} : ∀ {n : Nat} {c : Code} {s s' : IS} {e : Ext}, exIC E call rounds nt y n c s = some (e, s') → s.H.n ≤ s'.H.n
  | 0, c, s, s', e, h => by simp [exIC] at h
  | n + 1, c, s, s', e, h => by
    have fin : ∀ {e' : Ext}, some (e', s) = some (e, s') → s.H.n ≤ s'.H.n := fun q => by
      simp only [Option.some.injEq, Prod.mk.injEq] at q
      rw [← q.2]
      exact Nat.le_refl _
    cases c <;> simp only [exIC] at h <;> try (first | exact fin h | (cases h; done))
    · split at h
      · split at h
        · rename_i s1 h1
          simp only [Option.some.injEq, Prod.mk.injEq] at h
          rw [← h.2]
          exact exReg_num hnum h1
        · cases h
      · split at h
        · rename_i s1 h1
          simp only [Option.some.injEq, Prod.mk.injEq] at h
          rw [← h.2]
          exact exIList_num hnum hr h1
        · cases h
    · split at h
      · rename_i s1 h1
        exact Nat.le_trans (exIC_num hnum hr h1) (exIC_num hnum hr h)
      · exact exIC_num hnum hr h
    · split at h
      · split at h
        · exact exIC_num hnum hr h
        · exact exIC_num hnum hr h
      · cases h
    · split at h
      · rename_i j s1 h1
        simp only [Option.some.injEq, Prod.mk.injEq] at h
        rw [← h.2]
        exact exIC_num hnum hr h1
      · exact exIC_num hnum hr h
    · split at h
      · rename_i s1 h1
        exact Nat.le_trans (exIC_num hnum hr h1) (exIC_num hnum hr h)
      · exact exIC_num hnum hr h
    · exact exIC_num hnum hr h
theorem iterA_num {call : CallF} (hnum : NumOk call) {rounds : RoundF} (hr : ∀ {xs H e H'}, rounds xs H = some (e, H') → H.n ≤ H'.n) {n : Nat} {gf : FuncId} {cap : List AV} {H H' : AH} {e : Ext} (h : iterA E call rounds n gf cap H = some (e, H')) : H.n + 1 ≤ H'.n := by
  unfold iterA at h
  split at h
  · cases h
  · split at h
    · cases h
    · split at h
      · cases h
      · rename_i s hc
        have := exIC_num hnum hr hc
        split at h
        · split at h <;> first | (cases h; done) | (simp only [Option.some.injEq, Prod.mk.injEq] at h; rw [← h.2]; exact this)
        · cases h
      · cases h
theorem roundA_num {ex : Code → Fr → AH → Option (Ext × St)} (hex : ∀ {c F H e s}, ex c F H = some (e, s) → H.n ≤ s.H.n) {ps : List Tmp} {assign body : Code} {xs : List AV} {H H' : AH} {e : Ext} (h : roundA ex nt F ps assign body xs H = some (e, H')) : H.n ≤ H'.n := by
  unfold roundA at h
  split at h
  · split at h
    · rename_i s1 h1
      split at h
      · rename_i e2 s2 h2
        simp only [Option.some.injEq, Prod.mk.injEq] at h
        rw [← h.2]
        exact Nat.le_trans (hex h1) (hex h2)
      · cases h
    · cases h
  · cases h
theorem range_num {call : CallF} (hnum : NumOk call) {n : Nat} (hex : ∀ {c F H e s}, exC E call nt n c F H = some (e, s) → H.n ≤ s.H.n) {g : Operand} {ps : Array Tmp} {assign body : Code} {H : AH} {e : Ext} {s : St}
    (h : (match noRange assign && noRange body with
      | false => none
      | true => match opA F g with
        | some (.func gf [] cap) => match iterA E call (roundA (exC E call nt n) nt F ps.toList assign body) n gf cap H with
          | some (e, H') => some (e, ⟨F, H'⟩)
          | none => none
        | _ => none) = some (e, s)) : H.n ≤ s.H.n := by
  split at h
  · cases h
  · split at h
    · split at h
      · rename_i e2 H2 h2
        simp only [Option.some.injEq, Prod.mk.injEq] at h
        rw [← h.2]
        have := iterA_num hnum (fun q => roundA_num hex q) h2
        show H.n ≤ H2.n
        omega
      · cases h
    · cases h
theorem exC_num {call : CallF} (hnum : NumOk call) : ∀ {n : Nat} {c : Code} {F : Fr} {H : AH} {e : Ext} {s : St}, exC E call nt n c F H = some (e, s) → H.n ≤ s.H.n
  | 0, c, F, H, e, s, h => by simp [exC] at h
  | n + 1, c, F, H, e, s, h => by
    have fin : ∀ {e' : Ext} {F' : Fr}, some (e', (⟨F', H⟩ : St)) = some (e, s) → H.n ≤ s.H.n := fun q => by
      simp only [Option.some.injEq, Prod.mk.injEq] at q
      rw [← q.2]
      exact Nat.le_refl _
    cases c <;> simp only [exC] at h <;> try (first | exact fin h | (cases h; done))
    · split at h
      · rename_i s1 h1
        simp only [Option.some.injEq, Prod.mk.injEq] at h
        rw [← h.2]
        exact exReg_num hnum h1
      · cases h
    · split at h
      · rename_i s1 h1
        exact Nat.le_trans (exC_num hnum h1) (exC_num hnum h)
      · exact exC_num hnum h
    · split at h
      · split at h
        · exact exC_num hnum h
        · exact exC_num hnum h
      · cases h
    · split at h
      · rename_i j s1 h1
        simp only [Option.some.injEq, Prod.mk.injEq] at h
        rw [← h.2]
        exact exC_num hnum h1
      · exact exC_num hnum h
    · split at h
      · rename_i s1 h1
        exact Nat.le_trans (exC_num hnum h1) (exC_num hnum h)
      · exact exC_num hnum h
    · exact range_num hnum (fun q => exC_num hnum q) h
    · exact exC_num hnum h
def HookNum (E : Env) : Prop := ∀ {f : FuncId} {as : List AV} {H H' : AH} {v : AV}, E.hook f as H = some (v, H') → H.n ≤ H'.n
theorem exF_num (hk : HookNum E) {L : Nat} : ∀ (n : Nat), NumOk (exF E L n)
  | 0 => by intro h; simp [exF] at h
  | n + 1 => by
    intro h
    simp only [exF] at h
    split at h
    · rename_i r hr
      simp only [Option.some.injEq] at h
      subst h
      exact hk hr
    · split at h
      · cases h
      · split at h
        · cases h
        · split at h
          · cases h
          · rename_i e s hc
            split at h
            · simp only [Option.some.injEq, Prod.mk.injEq] at h
              rw [← h.2]
              exact exC_num (exF_num hk n) hc
            · cases h
          · cases h
end
end Go.Proofs.YteopodohghnokaaGreatDoor.Ex
end
section
namespace Go.Proofs.YteopodohghnokaaGreatDoor.Ex
open Go
set_option linter.unusedVariables false
set_option linter.unusedSimpArgs false
section
variable {E : Env} {γ : Cx} {N B nt : Nat} {w : World} {F : Fr} {a : Act} {ρ : Option Nat}

theorem stepR_scope {P : Program} {b : Frame} {a : Act} {k : List Item} {cs : List Frame} {w : World} {c : Code} : step P (lone (b.atR a (.code (.scope c) :: k)) cs w) = .next (lone (b.atR a (.code c :: .inScope c :: k)) cs w) :=
  step_lone_go (by simp [stepG, stepG.exec, Frame.atR])
theorem stepR_inScope {P : Program} {b : Frame} {a : Act} {k : List Item} {cs : List Frame} {w : World} {c : Code} : step P (lone (b.atR a (.inScope c :: k)) cs w) = .next (lone (b.atR a k) cs w) :=
  step_lone_go (by simp [stepG, stepG.exec, Frame.atR])
theorem wpIn_scope_straight {P : Program} {F : Fence} {n : Nat} {a : Act} {w : World} {Q : Exit → Act → World → Prop} {c : Code} (h : c.wpIn F n P (Exit.noGoto Q) a w) : (Code.scope c).wpIn F n P Q a w := by
  intro b k cs hro hb hr
  have h0 : (lone (b.atR a (.code (.scope c) :: k)) cs w).fenced P F := fenced_calm hb hr rfl
  obtain ⟨e, a₁, w₁, hq, harr⟩ := h b (.inScope c :: k) cs hro hb hr
  cases e with
  | normal => exact ⟨.normal, a₁, w₁, hq, .head h0 stepR_scope (StepsIn.trans harr (.one (fenced_calm hb hr rfl) stepR_inScope))⟩
  | exit id =>
    have hx : exitTo id (.inScope c :: k) = exitTo id k := by simp [exitTo]
    exact ⟨.exit id, a₁, w₁, hq, fun k' hk => .head h0 stepR_scope (harr.1 k' (by rw [hx]; exact hk)),
      fun hr' hk => let ⟨k₁, h1, h2⟩ := harr.2 hr' (by rw [hx]; exact hk); ⟨k₁, h1, .head h0 stepR_scope h2⟩⟩
  | goto l => exact hq.elim
  | ret => exact ⟨_, a₁, w₁, hq, .of_steps (.one h0 stepR_scope) harr⟩
  | panic ch => exact ⟨_, a₁, w₁, hq, .of_steps (.one h0 stepR_scope) harr⟩
  | outgrown => exact ⟨_, a₁, w₁, hq, .of_steps (.one h0 stepR_scope) harr⟩

theorem SR.next {H : HM} {n n' : Nat} (hs : SR E γ N B nt F H a w) {γ' : Cx} {H' : HM} {w' : World} (hx : Nxt γ H w n γ' H' w' n') (hr : Rel E γ' N H' w') {d : Option Tmp} {v : AV} {v' : Value} (hv : VR γ' v v') {F' : Fr} (hp : putA nt F d v = some F') : SR E γ' N B nt F' H' (a.put d v') w' :=
  ⟨hr, put_ok (hs.fr.mono hx.le) hv hp hs.size, Nat.le_trans hs.low hx.size, by rw [put_size]; exact hs.size, hs.defs.next hx (put_defers _ _)⟩

/-- A block that is none of the runner's memory is turned. -/
theorem Rel.putObj {H : HM} (h : Rel E γ N H w) {D : Nat} (hN : N ≤ D) (hd : ∀ id k l, H id = some k → γ.loc id = some l → l.1 ≠ D) (o : Obj) : Rel E γ N H (w.putObj D o) where
  blk := fun hk => by
    obtain ⟨β, ω, σ, hb⟩ := h.blk hk
    exact ⟨β, ω, σ, hb.keep (.refl _) (World.putObj_heap_other (hd _ _ _ hk hb.loc))⟩
  low := fun hl => by rw [World.putObj_size]; exact h.low hl
  inj := h.inj
  glob := fun hg => by
    obtain ⟨h1, rv, h2, h3⟩ := h.glob hg
    exact ⟨h1, rv, (cell?_heap (World.putObj_heap_other (by omega)) 0).trans h2, h3⟩
  sym := h.sym
theorem Nxt.putObj {H H' : HM} {γ' : Cx} {w' : World} {n n' : Nat} (h : Nxt γ H w n γ' H' w' n') {D : Nat} (hD : w.heap.size ≤ D) (o : Obj) : Nxt γ H w n γ' H' (w'.putObj D o) n' where
  le := h.le
  size := by rw [World.putObj_size]; exact h.size
  keep := fun β hβ hf => by rw [World.putObj_heap_other (by omega)]; exact h.keep β hβ hf
  img := h.img
  dom := h.dom
  num := h.num
  still := h.still.trans ⟨rfl, rfl, rfl⟩
  new := h.new
theorem Marks.putObj {Z : FuncId → Bool} {H : HM} (h : Marks Z B γ H a w) {D : Nat} (hD : { target := .collected D, args := #[] } ∉ a.defers) (o : Obj) : Marks Z B γ H a (w.putObj D o) :=
  ⟨by rw [World.putObj_size]; exact h.base, h.nd, fun d hd => by
    refine (h.each d hd).imp id fun ⟨D', h1, h2, h3, h4⟩ => ?_
    refine ⟨D', h1, h2, ?_, h4⟩
    rw [World.putObj_heap_other (fun e => hD (by rw [← e, ← h1]; exact hd))]
    exact h3⟩

/-- Names that are free stay so, but for those that were given. -/
theorem free_rest {H H' : HM} {w' : World} {n n' n'' : Nat} {γ' : Cx} (hx : Nxt γ H w n γ' H' w' n') (h1 : n' ≤ n'') (hf : ∀ id, n ≤ id → id < n'' → γ.loc id = none) : ∀ id, n' ≤ id → id < n'' → γ'.loc id = none := fun id a b => by
  cases hl : γ'.loc id with
  | none => rfl
  | some l =>
    rcases hx.dom hl with ⟨l0, h0⟩ | ⟨_, h2⟩
    · rw [hf id (Nat.le_trans hx.num a) b] at h0; cases h0
    · omega

theorem SR.defer {H : HM} (hs : SR E γ N B nt F H a w) {g : FuncId} {x : Value} (hg : E.quiet g = true) : SR E γ N B nt F H { a with defers := { target := .fn (.func g) #[x], args := #[] } :: a.defers } w :=
  ⟨hs.rel, hs.fr, hs.low, hs.size, hs.defs.base, List.pairwise_cons.2 ⟨fun _ _ _ => ⟨g, x, hg, rfl⟩, hs.defs.nd⟩, fun d hd => by
    rcases List.mem_cons.1 hd with rfl | hd
    · exact .inl ⟨g, x, hg, rfl⟩
    · exact hs.defs.each d hd⟩

theorem exOne_ok {call : CallF} (hcall : CallOk E call) (hnum : NumOk call) (ok : TyOk E) {ops : Array Oper} {Q : Exit → Act → World → Prop} {o : Oper} {H : AH} {s : St} (ho : exOne E call nt ops o F H = some s) (hs : SR E γ N B nt F H.bs.get a w) (hf : ∀ id, H.n ≤ id → id < s.H.n → γ.loc id = none) {K : Act → World → Prop}
    (hK : ∀ γ' a' w', SR E γ' N B nt s.F s.H.bs.get a' w' → Nxt γ H.bs.get w H.n γ' s.H.bs.get w' s.H.n → K a' w') : if Region.wanted o (yielded ops a.tmps) = true then o.wpIn (rd ρ) 0 E.P a w K Q else (∀ f, o.about E.P w a.eval = some f → (rd ρ).fn f) ∧ K (a.put o.dst undef) w := by
  unfold exOne at ho
  split at ho
  · rename_i hw
    rw [wanted_ok hs.fr hw, if_pos rfl]
    split at ho
    · rename_i r hr
      exact wp_of_fin hcall ok hs hr ho hf (fun γ' v v' w' hv hp hrel hx => hK _ _ _ (hs.next hx hrel hv hp) hx)
    · cases ho
  · rename_i hw
    rw [wanted_ok hs.fr hw, if_neg (by simp)]
    split at ho
    · rename_i F' hp
      simp only [Option.some.injEq] at ho
      subst ho
      have hx : Nxt γ H.bs.get w H.n γ H.bs.get w H.n := .refl _ _ _ _
      exact ⟨fun _ _ => trivial, hK _ _ _ (hs.next hx hs.rel undef_ok hp) hx⟩
    · cases ho
  · cases ho

theorem deferA_ok (hF : FRel γ F a) {o : Oper} (h : deferA E F o = true) : ∃ c f g x, o.op = .defer c ∧ o.guard = none ∧ o.dst = none ∧ c.callee = .value f ∧ c.args = #[] ∧ E.quiet g = true ∧ a.eval f = .func (.func g) #[] #[x] := by
  unfold deferA at h
  split at h
  · rename_i c h1 h2 h3
    split at h
    · rename_i f h4 h5
      split at h
      · rename_i g y hv
        have hp := opA_ok hF hv
        generalize hg : a.eval f = gv at hp
        cases hp with
        | func k1 k2 =>
          rename_i first' cap'
          have : first' = #[] := by
            apply Array.ext'
            generalize first'.toList = l at k1
            cases k1
            rfl
          subst this
          obtain ⟨x, rfl⟩ : ∃ x, cap' = #[x] := by
            obtain ⟨l⟩ := cap'
            change VRs _ [y] l at k2
            cases k2 with
            | cons q1 q2 => cases q2; exact ⟨_, rfl⟩
          exact ⟨c, f, g, x, h1, h2, h3, h4, by apply Array.ext'; simpa using h5, h, hg⟩
      · cases h
    · cases h
  · cases h

theorem exList_ok {call : CallF} (hcall : CallOk E call) (hnum : NumOk call) (ok : TyOk E) {ops : Array Oper} {Q : Exit → Act → World → Prop} :
    ∀ (l : List Oper) {γ : Cx} {F : Fr} {H : AH} {a : Act} {w : World} {s : St}, (ρ = none ∨ (l.all fun o => !isDefer o.op) = true) → exList E call nt ops l F H = some s → SR E γ N B nt F H.bs.get a w → (∀ id, H.n ≤ id → id < s.H.n → γ.loc id = none) →
      (∀ γ' a' w', SR E γ' N B nt s.F s.H.bs.get a' w' → Nxt γ H.bs.get w H.n γ' s.H.bs.get w' s.H.n → Q .normal a' w') → wpListIn (rd ρ) 0 E.P ops Q l a w
  | [], γ, F, H, a, w, s, hρ, h, hs, hf, K => by
    simp only [exList, Option.some.injEq] at h
    subst h
    exact wpListIn_nil (K γ a w hs (.refl _ _ _ _))
  | o :: l, γ, F, H, a, w, s, hρ, h, hs, hf, K => by
    simp only [exList] at h
    have hρ' : ρ = none ∨ (l.all fun o => !isDefer o.op) = true := hρ.imp id fun q => by
      rw [List.all_cons, Bool.and_eq_true] at q
      exact q.2
    cases ho : exOne E call nt ops o F H with
    | none =>
      simp only [ho] at h
      split at h
      · rename_i hd
        obtain ⟨c, f, g, x, h1, h2, h3, h4, h5, h6, h7⟩ := deferA_ok hs.fr hd
        have hρ0 : ρ = none := hρ.resolve_right (by simp [isDefer, h1])
        refine wpListIn_step fun K' hK' => ?_
        have hw : Region.wanted o (yielded ops a.tmps) = true := by unfold Region.wanted; rw [h2]
        rw [hw, if_pos rfl]
        refine ⟨fun _ _ => trivial, ?_⟩
        have hsem : (o.semAt ρ a.eval).run E.P w = .ok (.defer { target := .fn (.func g) #[x], args := #[] }) w := by
          rw [hρ0, Oper.semAt_none]
          simp only [execOp, h1, resolve, h4, h5, h7]
          simp [Deferred.ofValue, go_sem]
        show o.uponIn (rd ρ) 0 E.P a K' Q ((o.semAt ρ a.eval).run E.P w)
        rw [hsem, Oper.uponIn_defer, h3]
        exact hK' _ _ (exList_ok hcall hnum ok l hρ' h (hs.defer h6) hf K)
      · cases h
    | some s1 =>
      simp only [ho] at h
      have n1 := exOne_num hnum ho
      have n2 := exList_num hnum h
      refine wpListIn_step fun K' hK' => ?_
      exact exOne_ok hcall hnum ok ho hs (fun id a b => hf id a (by omega)) (fun γ' a' w' hs' hx => hK' _ _ (exList_ok hcall hnum ok l hρ' h hs' (free_rest hx n2 hf) (fun γ2 a2 w2 hs2 hx2 => K γ2 a2 w2 hs2 (hx.trans hx2))))

/-- A region whose order is open does as the runner does. -/
def DrawOk (E : Env) (nt : Nat) (call : CallF) : Prop := ∀ {ops : Array Oper} {id : Nat} {F : Fr} {H : AH} {s : St}, exReg E call nt ops true F H = some s → ∀ {γ : Cx} {N B : Nat} {ρ : Option Nat} {a : Act} {w : World} {Q : Exit → Act → World → Prop}, SR E γ N B nt F H.bs.get a w →
  (∀ id, H.n ≤ id → id < s.H.n → γ.loc id = none) → (∀ γ' a' w', SR E γ' N B nt s.F s.H.bs.get a' w' → Nxt γ H.bs.get w H.n γ' s.H.bs.get w' s.H.n → Q .normal a' w') → (Code.region id ops true).wpIn (rd ρ) 0 E.P Q a w

def Ext.real : Ext → Exit
  | .normal => .normal
  | .exit id => .exit id
  | .ret => .ret

/-- What a piece of code is said to do. -/
def CodeOk (E : Env) (nt : Nat) (call : CallF) (n : Nat) : Prop := ∀ {c : Code} {F : Fr} {H : AH} {e : Ext} {s : St}, exC E call nt n c F H = some (e, s) → ∀ {γ : Cx} {N B : Nat} {ρ : Option Nat} {a : Act} {w : World} {Q : Exit → Act → World → Prop}, (ρ = none ∨ noRange c = true) → SR E γ N B nt F H.bs.get a w →
  (∀ id, H.n ≤ id → id < s.H.n → γ.loc id = none) → (∀ γ' a' w', SR E γ' N B nt s.F s.H.bs.get a' w' → Nxt γ H.bs.get w H.n γ' s.H.bs.get w' s.H.n → Q e.real a' w') → c.wpIn (rd ρ) 0 E.P Q a w
def LoopOk (E : Env) (nt : Nat) (call : CallF) (n : Nat) : Prop := ∀ {c : Code} {F : Fr} {H : AH} {e : Ext} {s : St}, exC E call nt n (.loop c) F H = some (e, s) → ∀ {γ : Cx} {N B : Nat} {ρ : Option Nat} {a : Act} {w : World} {Q : Exit → Act → World → Prop}, (ρ = none ∨ noRange c = true) → SR E γ N B nt F H.bs.get a w →
  (∀ id, H.n ≤ id → id < s.H.n → γ.loc id = none) → (∀ γ' a' w', SR E γ' N B nt s.F s.H.bs.get a' w' → Nxt γ H.bs.get w H.n γ' s.H.bs.get w' s.H.n → Q e.real a' w') → Code.roundsIn (rd ρ) 0 E.P c Q n a w

structure FnOk (E : Env) : Prop where
  fn : ∀ {f : FuncId} {i : FI}, E.fn.get f = some i → ∃ fn, E.P.funcs[f]? = some fn ∧ fn.body = some i.body ∧ fn.ntmps = i.ntmps ∧ fn.results.toList = i.results ∧ fn.name ≠ "runtime.NumGoroutine"
  quiet : ∀ g, E.quiet g = true → QuietFn E.P g


theorem callFunc_run {P : Program} {f : FuncId} {fn : Func} {c : Code} {args : Array Value} (h1 : P.funcs[f]? = some fn) (h2 : fn.body = some c) (h3 : fn.name ≠ "runtime.NumGoroutine") : (callFunc f args).run P w = .ok (.enter f args) w := by
  simp [callFunc, h1, h2, h3]

/-- What a function hands back. -/
theorem results_ok (ok : TyOk E) {H : AH} (h : Rel E γ N H.bs.get w) (hF : FRel γ F a) : ∀ {l : List ResultVar} {r : List AV}, resultsA E F H l = some r →
    ∃ vs, (l.mapM fun (x : ResultVar) => match x with | .tmp t => (pure (a.tmps.getD t undef) : Sem Value) | .cell b t => do loadVar t (← asAddr (a.tmps.getD b undef))).run E.P w = .ok vs w ∧ VRs γ r vs
  | [], r, h' => by
    simp only [resultsA, Option.some.injEq] at h'
    subst h'
    exact ⟨[], rfl, .nil⟩
  | .tmp t :: l, r, h' => by
    simp only [resultsA] at h'
    split at h'
    · rename_i r' hr
      simp only [Option.some.injEq] at h'
      subst h'
      obtain ⟨vs, h1, h2⟩ := results_ok ok h hF hr
      refine ⟨a.tmps.getD t undef :: vs, ?_, .cons (hF t) h2⟩
      simp only [List.mapM_cons, Sem.run_bind, Sem.run_pure, Result.andThen_ok, h1]
    · cases h'
  | .cell b t :: l, r, h' => by
    simp only [resultsA] at h'
    split at h'
    · rename_i β o hb
      split at h'
      · rename_i v hv
        split at h'
        · rename_i r' hr
          simp only [Option.some.injEq] at h'
          subst h'
          obtain ⟨vs, h1, h2⟩ := results_ok ok h hF hr
          have hp := hF b
          rw [hb] at hp
          obtain ⟨v', k1, k2⟩ := loadT_ok ok h hv hp
          generalize hbv : a.tmps.getD b undef = bv at hp k1
          cases hp
          refine ⟨v' :: vs, ?_, .cons k2 h2⟩
          simp only [Instr.loadAt, Instr.sureAddr, pure_bind] at k1
          have hadd : ∀ A : Addr, asAddr (Value.pointer (some A)) = pure A := fun _ => rfl
          simp only [List.mapM_cons, Sem.run_bind, hbv, hadd, Sem.run_pure, Result.andThen_ok, k1, h1]
        · cases h'
      · cases h'
    · cases h'

theorem oneOr_ok {r : List AV} {vs : List Value} (h : VRs γ r vs) : VR γ (oneOr r) (if h : vs.toArray.size = 1 then vs.toArray[0] else .tuple vs.toArray) := by
  cases h with
  | nil => exact .tup .nil
  | cons h1 h2 =>
    cases h2 with
    | nil => exact h1
    | cons h2 h3 =>
      simp only [oneOr]
      rw [dif_neg (by simp)]
      exact .tup (by simpa using VRs.cons h1 (.cons h2 h3))

theorem results_run (ok : TyOk E) {H : AH} (h : Rel E γ N H.bs.get w) (hF : FRel γ F a) {fn : Func} {r : List AV} (hr : resultsA E F H fn.results.toList = some r) : ∃ v, (results fn a.tmps).run E.P w = .ok v w ∧ VR γ (oneOr r) v := by
  obtain ⟨vs, h1, h2⟩ := results_ok ok h hF hr
  refine ⟨_, ?_, oneOr_ok h2⟩
  unfold results
  rw [Array.mapM_eq_mapM_toList]
  simp only [Sem.run_bind, Sem.run_map, Sem.run_pure]
  change ((Sem.run E.P (fn.results.toList.mapM fun (x : ResultVar) => match x with | .tmp t => (pure (a.tmps.getD t undef) : Sem Value) | .cell b t => do loadVar t (← asAddr (a.tmps.getD b undef))) w).andThen _).andThen _ = _
  rw [h1]
  simp only [Result.andThen_ok]

/-- The marks are come to, one behind the other. -/
theorem IsQuiet.not_mark {Z : FuncId → Bool} {D : Nat} : ¬ IsQuiet Z { target := .collected D, args := #[] } := fun ⟨_, _, _, h⟩ => by cases h
theorem leaves_marks {P : Program} {Z : FuncId → Bool} (hq : ∀ g, Z g = true → QuietFn P g) {fn : Func} {tmps : Array Value} {K : Ending → World → Prop} {H : HM} {T : World → Prop} (hT : ∀ {w : World} {D : Nat} (o : Obj), B ≤ D → (∀ id k l, H id = some k → γ.loc id = some l → l.1 ≠ D) → T w → T (w.putObj D o)) : ∀ (ds : List Deferred) {a : Act} {w : World}, a.defers = ds → Marks Z B γ H a w → T w →
    (∀ w', T w' → ∃ v, (results fn tmps).run P w' = .ok v w' ∧ K (.returned v) w') → LeavesInM Fence.wide 0 P fn tmps K ds .returning w
  | [], a, w, he, hm, ht, k => k w ht
  | d :: ds, a, w, he, hm, ht, k => by
    have hm2 : Marks Z B γ H ({ a with defers := ds } : Act) w := ⟨hm.base, by have := hm.nd; rw [he] at this; exact (List.pairwise_cons.1 this).2, fun d hd => hm.each d (by rw [he]; exact List.mem_cons_of_mem _ hd)⟩
    rcases hm.each d (by rw [he]; simp) with ⟨g, x, hg, rfl⟩ | ⟨D, h1, h2, h3, h4⟩
    · obtain ⟨q1, q2⟩ := hq g hg x w
      refine ⟨by simp, .inr ⟨fun q => (by cases q), .func g, #[x], g, #[x], rfl, by simpa [invoke] using q1, fun _ _ => trivial, q2.mono ?_⟩⟩
      rintro e u w' ⟨⟨v, rfl⟩, rfl, rfl⟩
      exact leaves_marks hq hT ds (a := { a with defers := ds }) rfl hm2 ht k
    have hnd : { target := .collected D, args := #[] } ∉ ds := fun hmem => by
      have := hm.nd
      rw [he, h1] at this
      exact IsQuiet.not_mark ((List.pairwise_cons.1 this).1 _ hmem rfl)
    refine ⟨by simp, .inl ⟨D, _, by rw [h1], run_takeDeferred h3, ?_⟩⟩
    exact leaves_marks hq hT ds (a := { a with defers := ds }) rfl (hm2.putObj hnd _) (hT _ h2 h4 ht) k
end
end Go.Proofs.YteopodohghnokaaGreatDoor.Ex
end
