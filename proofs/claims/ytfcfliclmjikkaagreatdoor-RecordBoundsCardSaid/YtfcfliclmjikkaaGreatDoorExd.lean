/- The plain runner's memory: reading, writing, growing. -/
import Derived.Test.YtfcfliclmjikkaaGreatDoorExc
namespace Go.Proofs.YtfcfliclmjikkaaGreatDoor.Ex
open Go
set_option linter.unusedVariables false
set_option linter.unusedSimpArgs false

theorem size_setCells (b : Nat) : ∀ (vs : List Value) (o : Nat) (w : World), (w.setCells b o vs).heap.size = w.heap.size
  | [], _, _ => rfl
  | v :: r, o, w => by simp only [World.setCells]; rw [size_setCells b r (o + 1)]; simp [World.setCell]
theorem same_setCells (b : Nat) : ∀ (vs : List Value) (o : Nat) (w : World), Same w (w.setCells b o vs)
  | [], _, _ => .refl _
  | v :: r, o, w => .trans (w' := w.setCell ⟨b, o, none⟩ v) ⟨rfl, rfl, rfl⟩ (same_setCells b r (o + 1) _)
theorem heap_setCells (b : Nat) : ∀ (vs : List Value) (o : Nat) (w : World) (β : Nat), β ≠ b → (w.setCells b o vs).heap[β]? = w.heap[β]?
  | [], _, _, _, _ => rfl
  | v :: r, o, w, β, h => by
    simp only [World.setCells]
    rw [heap_setCells b r (o + 1) _ β h]
    simp only [World.setCell]
    rw [Array.getElem?_modify, if_neg (Ne.symm h)]

/-- What is read. -/
theorem loadA_ok {E : Env} {γ : Cx} {N : Nat} {H : AH} {w : World} (h : Rel E γ N H.bs.get w) {b o n : Nat} {l : List AV} (hl : loadA H b o n = some l) :
    ∃ β ω σ vs, γ.loc b = some (β, ω, σ) ∧ VRs γ l vs ∧ vs.length = n ∧ l.all okc = true ∧ ω + o + n ≤ σ ∧ ∀ j v, vs[j]? = some v → w.cell? (Addr.add ⟨β, ω + o, none⟩ j) = some v := by
  unfold loadA at hl
  cases hk : H.bs.get b with
  | none => simp [hk] at hl
  | some k =>
    simp only [hk] at hl
    split at hl
    · rename_i hlen
      obtain ⟨β, ω, σ, hb⟩ := h.blk hk
      obtain ⟨h1, h2⟩ := Tr.take_spec _ _ _ _ hl
      have hfit := hb.fit
      have hex : ∀ j, j < n → ∃ v av, l[j]? = some av ∧ okc av = true ∧ w.cell? ⟨β, ω + (o + j), none⟩ = some v ∧ VR γ av v := fun j hj => by
        obtain ⟨v, av, e1, e2, e3, e4⟩ := hb.cell (o + j) (by omega)
        exact ⟨v, av, by rw [← h2 j hj]; exact e1, e2, e3, e4⟩
      let vs : List Value := (List.range n).map fun j => (w.cell? ⟨β, ω + (o + j), none⟩).getD undef
      have hvs : ∀ j, j < n → vs[j]? = some ((w.cell? ⟨β, ω + (o + j), none⟩).getD undef) := fun j hj => by simp [vs, hj]
      refine ⟨β, ω, σ, vs, hb.loc, VRs.of_get (by simp [vs, h1]) ?_, by simp [vs], ?_, by omega, ?_⟩
      · intro j x y hx hy
        have hj : j < n := by have := (List.getElem?_eq_some_iff.1 hx).1; omega
        obtain ⟨v, av, e1, e2, e3, e4⟩ := hex j hj
        rw [hvs j hj, e3] at hy
        rw [e1] at hx
        simp only [Option.getD_some, Option.some.injEq] at hy hx
        subst hy hx
        exact e4
      · rw [List.all_eq_true]
        intro x hx
        obtain ⟨j, hj⟩ := List.mem_iff_getElem?.1 hx
        obtain ⟨v, av, e1, e2, e3, e4⟩ := hex j (by have := (List.getElem?_eq_some_iff.1 hj).1; omega)
        rw [e1] at hj
        simp only [Option.some.injEq] at hj
        subst hj
        exact e2
      · intro j v hv
        have hj : j < n := by have := (List.getElem?_eq_some_iff.1 hv).1; simpa [vs] using this
        obtain ⟨v', av, e1, e2, e3, e4⟩ := hex j hj
        rw [hvs j hj, e3] at hv
        simp only [Option.getD_some, Option.some.injEq] at hv
        subst hv
        rw [show (⟨β, ω + o, none⟩ : Addr).add j = ⟨β, ω + (o + j), none⟩ by unfold Addr.add; split <;> simp_all [Nat.add_assoc]]
        exact e3
    · cases hl

/-- What is written into a block. -/
theorem relB_put {γ : Cx} {w : World} {id β ω σ : Nat} {k : Blk} (hb : RelB γ w id k β ω σ) {o : Nat} {l : List AV} {vs : List Value} (hv : VRs γ l vs) (hc : l.all okc = true) (ho : o + l.length ≤ k.len) :
    RelB γ (w.setCells β (ω + o) vs) id ⟨k.len, k.cells.put o l⟩ β ω σ where
  loc := hb.loc
  fit := hb.fit
  there := fun i hi => by
    obtain ⟨h1, h2⟩ := hb.there i hi
    rw [World.frozen?_setCells]
    refine ⟨?_, h2⟩
    by_cases hin : ω + o ≤ i ∧ i < ω + o + vs.length
    · obtain ⟨j, rfl⟩ : ∃ j, i = ω + o + j := ⟨i - (ω + o), by omega⟩
      rw [World.cell?_setCells_in β vs (ω + o) w (fun j hj => (hb.there _ (by have := hv.length; have := hb.fit; omega)).1) j (by omega)]
      rfl
    · rw [World.cell?_setCells_out β vs (ω + o) w _ (fun _ _ => by simp only; omega)]
      exact h1
  cell := fun i hi => by
    simp only at hi
    have hlen := hv.length
    by_cases hin : o ≤ i ∧ i < o + l.length
    · obtain ⟨av, hav⟩ : ∃ av, l[i - o]? = some av := ⟨l[i - o]'(by omega), by simp⟩
      obtain ⟨v, hv1, hv2⟩ := hv.get _ hav
      refine ⟨v, av, ?_, List.all_eq_true.1 hc av (List.mem_of_getElem? hav), ?_, hv2⟩
      · simp only
        rw [Tr.get_put, if_pos hin]; exact hav
      · rw [show ω + i = ω + o + (i - o) by omega]
        rw [World.cell?_setCells_in β vs (ω + o) w (fun j hj => (hb.there _ (by have := hb.fit; omega)).1) (i - o) (by omega)]
        rw [← hv1]; simp
    · obtain ⟨v, av, e1, e2, e3, e4⟩ := hb.cell i hi
      refine ⟨v, av, ?_, e2, ?_, e4⟩
      · simp only
        rw [Tr.get_put, if_neg hin]; exact e1
      · rw [World.cell?_setCells_out β vs (ω + o) w _ (fun _ _ => by simp only; omega)]
        exact e3

/-- A block written anew, in place. -/
theorem rel_set {E : Env} {γ : Cx} {N : Nat} {H : HM} {w w' : World} {id β ω σ : Nat} {k k' : Blk} (n : Nat)
    (h : Rel E γ N H w) (hk : H id = some k) (hl : γ.loc id = some (β, ω, σ)) (hb : RelB γ w' id k' β ω σ) (hsz : w'.heap.size = w.heap.size) (hw : ∀ b, b ≠ β → w'.heap[b]? = w.heap[b]?) (hst : Same w w') :
    Rel E γ N (hset H id k') w' ∧ Nxt γ H w n γ (hset H id k') w' n := by
  have hne : ∀ {i : Nat} {k2 : Blk} {l : Nat × Nat × Nat}, i ≠ id → H i = some k2 → γ.loc i = some l → l.1 ≠ β := fun hi h2 h3 e => hi (h.inj h2 hk h3 hl e)
  refine ⟨⟨?_, ?_, ?_, ?_, h.sym⟩, ⟨.refl _, by omega, ?_, ?_, fun e => .inl ⟨_, e⟩, Nat.le_refl _, hst, fun {i k2} e => by
      unfold hset at e
      split at e
      · rename_i e0; subst e0; exact .inl ⟨_, hk⟩
      · exact .inl ⟨_, e⟩⟩⟩
  · intro i k2 hi
    unfold hset at hi
    split at hi
    · rename_i e
      subst e
      simp only [Option.some.injEq] at hi
      subst hi
      exact ⟨_, _, _, hb⟩
    · rename_i e
      obtain ⟨β2, ω2, σ2, hb2⟩ := h.blk hi
      exact ⟨β2, ω2, σ2, hb2.keep (.refl _) (hw _ (hne (Ne.symm e) hi hb2.loc))⟩
  · intro i l e
    rw [hsz]
    exact h.low e
  · intro i j k1 k2 l1 l2 hi hj h1 h2 he
    unfold hset at hi hj
    split at hi <;> split at hj
    · omega
    · rename_i e1 e2; subst e1; exact h.inj hk hj h1 h2 he
    · rename_i e1 e2; subst e2; exact h.inj hi hk h1 h2 he
    · exact h.inj hi hj h1 h2 he
  · intro g v hg
    obtain ⟨h1, rv, h2, h3⟩ := h.glob hg
    exact ⟨h1, rv, (cell?_heap (hw g (by have := (h.low hl).1; simp only at this; omega)) 0).trans h2, h3⟩
  · intro b hb' hf
    exact hw b (fun e => hf id k _ hk hl e.symm)
  · intro i k2 l hi hl2
    unfold hset at hi
    split at hi
    · rename_i e; subst e; exact .inr ⟨id, k, l, hk, hl2, rfl⟩
    · exact .inr ⟨i, k2, l, hi, hl2, rfl⟩

theorem Tr.get_set_fun (t : Tr Blk) (id : Nat) (k : Blk) : (t.set id k).get = hset t.get id k := by
  funext j
  rw [Tr.get_set]
  rfl
theorem AH.get_set (H : AH) (id : Nat) (k : Blk) : (H.bs.set id k).get = hset H.bs.get id k := by
  funext j
  rw [Tr.get_set]
  rfl

theorem storeA_ok {E : Env} {γ : Cx} {N : Nat} {H H' : AH} {w : World} (h : Rel E γ N H.bs.get w) {b o : Nat} {l : List AV} {vs : List Value} (hs : storeA H b o l = some H') (hv : VRs γ l vs) :
    ∃ β ω σ, γ.loc b = some (β, ω, σ) ∧ H'.n = H.n ∧ ω + o + vs.length ≤ σ ∧ (∀ u ∈ vs, u.oneCell' = true) ∧ (∀ j, j < vs.length → (w.cell? ⟨β, ω + o + j, none⟩).isSome = true ∧ w.frozen? ⟨β, ω + o + j, none⟩ = false) ∧
      Rel E γ N H'.bs.get (w.setCells β (ω + o) vs) ∧ Nxt γ H.bs.get w H.n γ H'.bs.get (w.setCells β (ω + o) vs) H'.n := by
  unfold storeA at hs
  cases hk : H.bs.get b with
  | none => simp [hk] at hs
  | some k =>
    simp only [hk] at hs
    split at hs
    · rename_i hc
      simp only [Bool.and_eq_true, decide_eq_true_eq] at hc
      simp only [Option.some.injEq] at hs
      subst hs
      obtain ⟨β, ω, σ, hb⟩ := h.blk hk
      have hlen := hv.length
      have hfit := hb.fit
      have hp := relB_put hb hv hc.2 hc.1
      have := rel_set H.n h hk hb.loc hp (size_setCells _ _ _ _) (fun b' hb' => heap_setCells _ _ _ _ _ hb') (same_setCells _ _ _ _)
      refine ⟨β, ω, σ, hb.loc, rfl, by omega, VRs.oneCell hv hc.2, fun j hj => hb.there _ (by omega), ?_⟩
      simp only [AH.get_set]
      exact this
    · cases hs

theorem AH.new_ok {H H' : AH} {l : List AV} (h : H.new l = some H') : H'.n = H.n + 1 ∧ H'.bs.get = hset H.bs.get H.n ⟨l.length, Tr.nil.put 0 l⟩ ∧ l.all okc = true := by
  unfold AH.new at h
  split at h
  · simp only [Option.some.injEq] at h
    subst h
    exact ⟨rfl, AH.get_set _ _ _, by assumption⟩
  · cases h

/-- A row that goes on under a new name, where it lay. -/
theorem rel_rename {E : Env} {γ : Cx} {N : Nat} {H : HM} {w w' : World} {b id β ω ω' σ : Nat} {k k' : Blk}
    (h : Rel E γ N H w) (hk : H b = some k) (hl : γ.loc b = some (β, ω, σ)) (hid : γ.loc id = none) (hsz : w'.heap.size = w.heap.size) (hw : ∀ i, i ≠ β → w'.heap[i]? = w.heap[i]?)
    (hb : RelB (γ.bind id (β, ω', σ)) w' id k' β ω' σ) (hst : Same w w') :
    Rel E (γ.bind id (β, ω', σ)) N (hset (fun j => if j = b then none else H j) id k') w' ∧ Nxt γ H w id (γ.bind id (β, ω', σ)) (hset (fun j => if j = b then none else H j) id k') w' (id + 1) := by
  have hle := Cx.le_bind (β, ω', σ) hid
  have hlow := h.low hl
  simp only at hlow
  have hbid : b ≠ id := fun e => by subst e; rw [hl] at hid; cases hid
  refine ⟨⟨?_, ?_, ?_, ?_, h.sym⟩, ⟨hle, by omega, ?_, ?_, ?_, by omega, hst, fun {i k2} e => by
      unfold hset at e
      dsimp only at e
      split at e
      · rename_i e0; subst e0; exact .inr ⟨Nat.le_refl _, by omega⟩
      · split at e
        · cases e
        · exact .inl ⟨_, e⟩⟩⟩
  · intro i k2 hi
    unfold hset at hi
    dsimp only at hi
    split at hi
    · rename_i e
      subst e
      simp only [Option.some.injEq] at hi
      subst hi
      exact ⟨_, _, _, hb⟩
    · split at hi
      · cases hi
      · rename_i e1 e2
        obtain ⟨β2, ω2, σ2, hb2⟩ := h.blk hi
        exact ⟨β2, ω2, σ2, hb2.keep hle (hw _ (fun e => e2 (h.inj hi hk hb2.loc hl e)))⟩
  · intro i l e
    by_cases hi : i = id
    · subst hi
      rw [Cx.bind_same] at e
      simp only [Option.some.injEq] at e
      subst e
      simp only
      omega
    · rw [Cx.bind_ne _ hi] at e
      have := h.low e
      omega
  · intro i j k1 k2 l1 l2 hi hj h1 h2 he
    unfold hset at hi hj
    dsimp only at hi hj
    have key : ∀ {i : Nat} {k1 : Blk} {l1 : Nat × Nat × Nat}, i ≠ id → (if i = b then none else H i) = some k1 → (γ.bind id (β, ω', σ)).loc i = some l1 → l1.1 ≠ β := fun {i k1 l1} hi h1 h2 e => by
      split at h1
      · cases h1
      · rename_i e2
        rw [Cx.bind_ne _ hi] at h2
        exact e2 (h.inj h1 hk h2 hl e)
    have keyid : ∀ {l1 : Nat × Nat × Nat}, (γ.bind id (β, ω', σ)).loc id = some l1 → l1.1 = β := fun {l1} e => by
      rw [Cx.bind_same] at e
      simp only [Option.some.injEq] at e
      subst e
      rfl
    by_cases ei : id = i
    · by_cases ej : id = j
      · omega
      · subst ei
        rw [if_neg ej] at hj
        exact absurd (he.symm.trans (keyid h1)) (key (Ne.symm ej) hj h2)
    · rw [if_neg ei] at hi
      by_cases ej : id = j
      · subst ej
        exact absurd (he.trans (keyid h2)) (key (Ne.symm ei) hi h1)
      · rw [if_neg ej] at hj
        rw [Cx.bind_ne _ (Ne.symm ei)] at h1
        rw [Cx.bind_ne _ (Ne.symm ej)] at h2
        split at hi
        · cases hi
        · split at hj
          · cases hj
          · exact h.inj hi hj h1 h2 he
  · intro g v hg
    obtain ⟨h1, rv, h2, h3⟩ := h.glob hg
    exact ⟨h1, rv, (cell?_heap (hw g (by omega)) 0).trans h2, h3.mono hle⟩
  · intro i hi hf
    exact hw i (fun e => hf b k _ hk hl e.symm)
  · intro i k2 l hi hl2
    by_cases e : i = id
    · subst e
      rw [Cx.bind_same] at hl2
      simp only [Option.some.injEq] at hl2
      subst hl2
      exact .inr ⟨b, k, _, hk, hl, rfl⟩
    · unfold hset at hi
      dsimp only at hi
      rw [if_neg (Ne.symm e)] at hi
      split at hi
      · cases hi
      · rw [Cx.bind_ne _ e] at hl2
        exact .inr ⟨i, k2, l, hi, hl2, rfl⟩
  · intro i l e
    by_cases hi : i = id
    · subst hi; exact .inr ⟨Nat.le_refl _, by omega⟩
    · rw [Cx.bind_ne _ hi] at e
      exact .inl ⟨_, e⟩
end Go.Proofs.YtfcfliclmjikkaaGreatDoor.Ex
