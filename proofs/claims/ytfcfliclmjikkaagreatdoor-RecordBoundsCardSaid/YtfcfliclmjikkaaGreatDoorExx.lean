/- The plain runner: a region whose order is open, the memory ahead of and behind a step, and the log's own facts. -/
import Derived.Test.YtfcfliclmjikkaaGreatDoorExw
namespace Go.Proofs.YtfcfliclmjikkaaGreatDoor.Ex
open Go
set_option linter.unusedVariables false
set_option linter.unusedSimpArgs false

mutual
theorem eqAV_ok : ∀ (a b : AV), eqAV a b = true → a = b
  | .int k n, b, h => by cases b <;> simp [eqAV] at h; simp [h]
  | .lin k i a c, b, h => by cases b <;> simp [eqAV] at h; simp [h]
  | .bool x, b, h => by cases b <;> simp [eqAV] at h; simp [h]
  | .str s, b, h => by cases b <;> simp [eqAV] at h; simp [h]
  | .ptr x o, b, h => by cases b <;> simp [eqAV] at h; simp [h]
  | .nilptr, b, h => by cases b <;> simp [eqAV] at h; rfl
  | .slice a1 a2 a3 a4 a5, b, h => by cases b <;> simp [eqAV] at h; simp [h]
  | .nilslice, b, h => by cases b <;> simp [eqAV] at h; rfl
  | .func f x y, b, h => by
    cases b <;> simp [eqAV] at h
    rw [h.1.1, eqAVs_ok _ _ h.1.2, eqAVs_ok _ _ h.2]
  | .nilFunc, b, h => by cases b <;> simp [eqAV] at h; rfl
  | .iface t v, b, h => by
    cases b <;> simp [eqAV] at h
    rw [h.1, eqAV_ok _ _ h.2]
  | .nilIface, b, h => by cases b <;> simp [eqAV] at h; rfl
  | .agg l, b, h => by
    cases b <;> simp [eqAV] at h
    rw [eqAVs_ok _ _ h]
  | .tup l, b, h => by
    cases b <;> simp [eqAV] at h
    rw [eqAVs_ok _ _ h]
  | .glob g, b, h => by cases b <;> simp [eqAV] at h; simp [h]
  | .opq i, b, h => by cases b <;> simp [eqAV] at h; simp [h]
  | .yld i, b, h => by cases b <;> simp [eqAV] at h
theorem eqAVs_ok : ∀ (a b : List AV), eqAVs a b = true → a = b
  | [], b, h => by cases b <;> simp [eqAVs] at h; rfl
  | x :: l, b, h => by
    cases b <;> simp [eqAVs] at h
    rw [eqAV_ok _ _ h.1, eqAVs_ok _ _ h.2]
end

/-! ### A step from a lesser memory -/
/-- What a step from a part of memory does with all of it. -/
theorem rel_frame {E : Env} {γ γ' : Cx} {N n n' : Nat} {HD Hs Hs' HD' : HM} {w w' : World} (h : Rel E γ N HD w) (hs : ∀ id k, Hs id = some k → HD id = some k) (h' : Rel E γ' N Hs' w') (hx : Nxt γ Hs w n γ' Hs' w' n')
    (hd : ∀ id k, HD' id = some k → Hs' id = some k ∨ (Hs id = none ∧ HD id = some k)) : Rel E γ' N HD' w' ∧ Nxt γ HD w n γ' HD' w' n' := by
  have old : ∀ {id k}, Hs id = none → HD id = some k → ∃ β ω σ, RelB γ w id k β ω σ ∧ w'.heap[β]? = w.heap[β]? := fun {id k} a b => by
    obtain ⟨β, ω, σ, hb⟩ := h.blk b
    refine ⟨β, ω, σ, hb, hx.keep β (h.low hb.loc).2 (fun j k2 l2 hj hl e => ?_)⟩
    have := h.inj (hs _ _ hj) b hl hb.loc e
    subst this
    rw [hj] at a; cases a
  have cross : ∀ {i j k k' l l'}, Hs' i = some k → Hs j = none → HD j = some k' → γ'.loc i = some l → γ'.loc j = some l' → l.1 = l'.1 → False := fun {i j k k' l l'} hi hj hj' h1 h2 e => by
    obtain ⟨β, ω, σ, hb, _⟩ := old hj hj'
    have hl' := hx.le.loc hb.loc
    rw [hl'] at h2
    simp only [Option.some.injEq] at h2
    subst h2
    rcases hx.img hi h1 with q | ⟨j0, k0, l0, a, b, c⟩
    · have := (h.low hb.loc).2
      simp only at e this
      omega
    · have := h.inj (hs _ _ a) hj' b hb.loc (c.trans e)
      subst this
      rw [a] at hj; cases hj
  refine ⟨⟨fun {id k} hk => ?_, h'.low, fun {i j k k' l l'} hi hj h1 h2 e => ?_, h'.glob, h'.sym⟩, ⟨hx.le, hx.size, fun β hβ hf => hx.keep β hβ (fun id k l a b => hf id k l (hs _ _ a) b), fun {id k l} hk hl => ?_, hx.dom, hx.num, hx.still, fun {id k} hk => ?_⟩⟩
  · rcases hd id k hk with q | ⟨a, b⟩
    · exact h'.blk q
    · obtain ⟨β, ω, σ, hb, hw⟩ := old a b
      exact ⟨β, ω, σ, hb.keep hx.le hw⟩
  · rcases hd i k hi with q | ⟨a, b⟩ <;> rcases hd j k' hj with q' | ⟨a', b'⟩
    · exact h'.inj q q' h1 h2 e
    · exact (cross q a' b' h1 h2 e).elim
    · exact (cross q' a b h2 h1 e.symm).elim
    · obtain ⟨β, ω, σ, hb, _⟩ := old a b
      obtain ⟨β', ω', σ', hb', _⟩ := old a' b'
      have e1 := hx.le.loc hb.loc
      have e2 := hx.le.loc hb'.loc
      rw [e1] at h1
      rw [e2] at h2
      simp only [Option.some.injEq] at h1 h2
      subst h1 h2
      exact h.inj b b' hb.loc hb'.loc e
  · rcases hd id k hk with q | ⟨a, b⟩
    · rcases hx.img q hl with q | ⟨j0, k0, l0, a, b, c⟩
      · exact .inl q
      · exact .inr ⟨j0, k0, l0, hs _ _ a, b, c⟩
    · obtain ⟨β, ω, σ, hb, _⟩ := old a b
      have e1 := hx.le.loc hb.loc
      rw [e1] at hl
      simp only [Option.some.injEq] at hl
      subst hl
      exact .inr ⟨id, k, _, b, hb.loc, rfl⟩
  · rcases hd id k hk with q | ⟨a, b⟩
    · rcases hx.new q with ⟨k0, q⟩ | q
      · exact .inl ⟨k0, hs _ _ q⟩
      · exact .inr q
    · exact .inl ⟨k, b⟩

/-- A step within a stretch of names. -/
theorem Nxt.into {γ γ' γ'' : Cx} {H H' H'' : HM} {w w' w'' : World} {n n1 n2 m : Nat} (h : Nxt γ H w n γ' H' w' m) (g : Nxt γ' H' w' n1 γ'' H'' w'' n2) (h1 : n ≤ n1) (h2 : n2 ≤ m) : Nxt γ H w n γ'' H'' w'' m where
  le := h.le.trans g.le
  size := Nat.le_trans h.size g.size
  keep := fun β hβ hf => by
    rw [g.keep β (Nat.lt_of_lt_of_le hβ h.size) (fun id k l hk hl e => ?_), h.keep β hβ hf]
    rcases h.img hk hl with q | ⟨j, k0, l0, a, b, c⟩
    · omega
    · exact hf j k0 l0 a b (c.trans e)
  img := fun hk hl => by
    rcases g.img hk hl with q | ⟨j, k0, l0, a, b, c⟩
    · exact .inl (Nat.le_trans h.size q)
    · rcases h.img a b with q | ⟨j', k1, l1, a', b', c'⟩
      · exact .inl (by omega)
      · exact .inr ⟨j', k1, l1, a', b', c'.trans c⟩
  dom := fun hl => by
    rcases g.dom hl with ⟨l0, h0⟩ | q
    · exact h.dom h0
    · exact .inr ⟨by omega, by omega⟩
  num := h.num
  still := h.still.trans g.still
  new := fun e => by
    rcases g.new e with ⟨k0, h0⟩ | q
    · exact h.new h0
    · exact .inr ⟨by omega, by omega⟩

/-! ### The log -/
/-- The places of all that acts, the last one first. -/
def spI (ty : Tr TI) (ops : Array Oper) : List Ent → List Nat
  | [] => []
  | e :: l => spI ty ops l ++ (match spineE ty ops e with
    | true => [e.i]
    | false => [])
theorem spI_len (ty : Tr TI) (ops : Array Oper) : ∀ l : List Ent, (spI ty ops l).length = (spR ty ops l).length
  | [] => rfl
  | e :: l => by
    simp only [spI, spR, List.length_append, spI_len ty ops l]
    cases spineE ty ops e <;> rfl
theorem spI_mem (ty : Tr TI) (ops : Array Oper) : ∀ {l : List Ent} {i : Nat}, i ∈ spI ty ops l → ∃ e ∈ l, e.i = i ∧ spineE ty ops e = true
  | [], i, h => by simp [spI] at h
  | e :: l, i, h => by
    simp only [spI, List.mem_append] at h
    rcases h with h | h
    · obtain ⟨e', a, b⟩ := spI_mem ty ops h
      exact ⟨e', List.mem_cons_of_mem _ a, b⟩
    · cases hs : spineE ty ops e with
      | true => simp only [hs, List.mem_singleton] at h; exact ⟨e, List.mem_cons_self .., h.symm, hs⟩
      | false => simp [hs] at h
theorem spI_append (ty : Tr TI) (ops : Array Oper) : ∀ (l r : List Ent), spI ty ops (l ++ r) = spI ty ops r ++ spI ty ops l
  | [], r => by simp [spI]
  | e :: l, r => by simp only [List.cons_append, spI, spI_append ty ops l r, List.append_assoc]
theorem withAge_fst (ty : Tr TI) (ops : Array Oper) (ms : List Nat) : ∀ (L sps : List Nat), (withAge ty ops ms L sps).map (·.1) = L
  | [], _ => rfl
  | i :: L, sps => by simp [withAge, withAge_fst ty ops ms L]
theorem withAge_split (ty : Tr TI) (ops : Array Oper) (ms : List Nat) : ∀ (l1 : List Ent) (e : Ent) (l2 : List Ent) (L sps : List Nat), (l1 ++ e :: l2).map (fun e => (e.i, e.d)) = withAge ty ops ms L sps → e.d = ageOf (ms.getD e.i 0) (spI ty ops l1 ++ sps)
  | [], e, l2, L, sps, h => by
    cases L with
    | nil => simp [withAge] at h
    | cons i L =>
      simp only [List.nil_append, List.map_cons, withAge, List.cons.injEq, Prod.mk.injEq] at h
      obtain ⟨⟨rfl, h2⟩, _⟩ := h
      simpa [spI] using h2
  | e1 :: l1, e, l2, L, sps, h => by
    cases L with
    | nil => simp [withAge] at h
    | cons i L =>
      simp only [List.cons_append, List.map_cons, withAge, List.cons.injEq, Prod.mk.injEq] at h
      obtain ⟨⟨rfl, _⟩, h3⟩ := h
      have := withAge_split ty ops ms l1 e l2 L _ h3
      rw [this]
      simp only [spI, List.append_assoc]
      unfold spineE
      cases spineAt ty ops e1.i <;> rfl
theorem ageOf_le (m : Nat) : ∀ (q r : List Nat), (∀ c ∈ q, Nat.testBit m c = false) → q.length ≤ ageOf m (q ++ r)
  | [], r, _ => Nat.zero_le _
  | c :: q, r, h => by
    simp only [List.cons_append, ageOf, h c (List.mem_cons_self ..), List.length_cons]
    have := ageOf_le m q r (fun c hc => h c (List.mem_cons_of_mem _ hc))
    omega

theorem count_lt {α : Type} {p p' : α → Bool} : ∀ (l : List α), (∀ x ∈ l, p' x = true → p x = true) → (∃ x ∈ l, p x = true ∧ p' x = false) → l.countP p' < l.countP p
  | [], _, h => by obtain ⟨x, hx, _⟩ := h; simp at hx
  | y :: l, h1, h2 => by
    have le : ∀ (l : List α), (∀ x ∈ l, p' x = true → p x = true) → l.countP p' ≤ l.countP p := fun l h => List.countP_mono_left (by simpa using h)
    rw [List.countP_cons, List.countP_cons]
    obtain ⟨x, hx, a, b⟩ := h2
    rcases List.mem_cons.1 hx with rfl | hx
    · have := le l (fun x hx => h1 x (List.mem_cons_of_mem _ hx))
      simp [a, b]; omega
    · have := count_lt l (fun x hx => h1 x (List.mem_cons_of_mem _ hx)) ⟨x, hx, a, b⟩
      have h3 := h1 y (List.mem_cons_self ..)
      by_cases q : p' y = true
      · simp [q, h3 q]; omega
      · simp only [Bool.not_eq_true] at q
        simp only [q]
        simp
        omega
end Go.Proofs.YtfcfliclmjikkaaGreatDoor.Ex
