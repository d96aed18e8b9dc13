/- The plain runner: what is known of a region whose order is open, off its text alone. -/
import Derived.Test.YtfcfliclmjikkaaGreatDoorExt
import Derived.Orders
import Derived.OrdersIn
namespace Go.Proofs.YtfcfliclmjikkaaGreatDoor.Ex
open Go
set_option linter.unusedVariables false
set_option linter.unusedSimpArgs false

theorem bit_shift (i j : Nat) : Nat.testBit (Nat.shiftLeft 1 i) j = decide (i = j) := by
  have : Nat.shiftLeft 1 i = 2 ^ i := by
    show 1 <<< i = 2 ^ i
    rw [Nat.shiftLeft_eq, Nat.one_mul]
  rw [this, Nat.testBit_two_pow]
theorem bit_bitOf (i j : Nat) : Nat.testBit (bitOf i) j = decide (i = j) := bit_shift i j
theorem bit_lor (a b j : Nat) : Nat.testBit (Nat.lor a b) j = (Nat.testBit a j || Nat.testBit b j) := Nat.testBit_or a b j
theorem bit_maskOf (acc : List Nat) (j : Nat) : ∀ l : List Nat, Nat.testBit (maskOf acc l) j = true ↔ ∃ p ∈ l, p = j ∨ Nat.testBit (acc.getD p 0) j = true
  | [] => by simp [maskOf]
  | p :: l => by
    simp only [maskOf, bit_lor, bit_bitOf, Bool.or_eq_true, decide_eq_true_eq, bit_maskOf acc j l, List.mem_cons, exists_eq_or_imp]
theorem bit_bitsOf (j : Nat) : ∀ l : List Nat, Nat.testBit (bitsOf l) j = true ↔ j ∈ l
  | [] => by simp [bitsOf]
  | p :: l => by
    simp only [bitsOf, bit_lor, bit_bitOf, Bool.or_eq_true, decide_eq_true_eq, bit_bitsOf j l, List.mem_cons]
    constructor
    · rintro (h | h)
      · exact .inl h.symm
      · exact .inr h
    · rintro (h | h)
      · exact .inl h.symm
      · exact .inr h
theorem within_ok {a b : Nat} (h : within a b = true) {j : Nat} (ha : Nat.testBit a j = true) : Nat.testBit b j = true := by
  have e : Nat.lor a b = b := Nat.eq_of_beq_eq_true h
  have := bit_lor a b j
  rw [e, ha] at this
  simpa using this

theorem masks_len : ∀ (l : List Oper) (acc : List Nat), (masks l acc).length = acc.length + l.length
  | [], acc => by simp [masks]
  | o :: l, acc => by simp [masks, masks_len l]; omega
theorem masks_take : ∀ (l : List Oper) (acc : List Nat) (k : Nat), k ≤ acc.length → (masks l acc).take k = acc.take k
  | [], acc, k, _ => by simp [masks]
  | o :: l, acc, k, h => by
    simp only [masks]
    rw [masks_take l _ k (by simp; omega), List.take_append_of_le_length h]
theorem masks_get : ∀ (l : List Oper) (acc : List Nat) (k : Nat) (o : Oper), l[k]? = some o → (masks l acc)[acc.length + k]? = some (maskOf ((masks l acc).take (acc.length + k)) (edgesOf o))
  | [], acc, k, o, h => by simp at h
  | o' :: l, acc, 0, o, h => by
    simp only [List.getElem?_cons_zero, Option.some.injEq] at h
    subst h
    simp only [masks, Nat.add_zero]
    have h1 := masks_take l (acc ++ [maskOf acc (edgesOf o')]) (acc.length + 1) (by simp)
    have h2 : (masks l (acc ++ [maskOf acc (edgesOf o')]))[acc.length]? = some (maskOf acc (edgesOf o')) := by
      rw [← List.getElem?_take_of_lt (show acc.length < acc.length + 1 by omega), h1]
      simp
    rw [h2, masks_take l _ acc.length (by simp)]
    simp
  | o' :: l, acc, k + 1, o, h => by
    simp only [masks]
    have := masks_get l (acc ++ [maskOf acc (edgesOf o')]) k o (by simpa using h)
    simp only [List.length_append, List.length_cons, List.length_nil] at this
    rw [show acc.length + (k + 1) = acc.length + (0 + 1) + k by omega]
    exact this

/-- Does an operation wait for another one? -/
def Anc (ops : Array Oper) (i j : Nat) : Prop := Nat.testBit ((masks ops.toList []).getD i 0) j = true
theorem anc_edge {ops : Array Oper} {i j : Nat} {o : Oper} (ho : ops[i]? = some o) (h : Anc ops i j) : ∃ p ∈ edgesOf o, p = j ∨ Anc ops p j := by
  unfold Anc at h
  have := masks_get ops.toList [] i o (by simpa using ho)
  simp only [List.length_nil, Nat.zero_add] at this
  rw [List.getD_eq_getElem?_getD, this, Option.getD_some, bit_maskOf] at h
  obtain ⟨p, hp, hq⟩ := h
  refine ⟨p, hp, ?_⟩
  rcases hq with rfl | hq
  · exact .inl rfl
  · right
    unfold Anc
    rw [List.getD_eq_getElem?_getD] at hq ⊢
    rw [List.getElem?_take] at hq
    split at hq
    · exact hq
    · simp at hq

/-- What the check of an order tells. -/
structure Ordered (ty : Tr TI) (ops : Array Oper) (l1 : List Nat) (i : Nat) (S : Nat → Prop) : Prop where
  op : ∃ o, ops[i]? = some o ∧ (∀ p ∈ edgesOf o, S p ∨ p ∈ l1) ∧ (isSpine ty o = true → ∀ j, S j ∨ j ∈ l1 → Anc ops i j)
  new : ¬ S i ∧ i ∉ l1
theorem chk_ok {ty : Tr TI} {ops : Array Oper} : ∀ (l : List Nat) (seen : Nat), chk ty ops (masks ops.toList []) l seen = true →
    (∀ l1 i l2, l = l1 ++ i :: l2 → Ordered ty ops l1 i (fun j => Nat.testBit seen j = true)) ∧ ∀ i, i < ops.size → Nat.testBit seen i = true ∨ i ∈ l
  | [], seen, h => by
    refine ⟨fun l1 i l2 e => by simp at e, fun i hi => .inl ?_⟩
    simp only [chk] at h
    have e : seen + 1 = 2 ^ ops.size := by
      have := Nat.eq_of_beq_eq_true h
      rw [this]
      show 1 <<< ops.size = 2 ^ ops.size
      rw [Nat.shiftLeft_eq, Nat.one_mul]
    have : seen = 2 ^ ops.size - 1 := by omega
    rw [this, Nat.testBit_two_pow_sub_one]
    simpa using hi
  | i :: l, seen, h => by
    simp only [chk] at h
    split at h
    · cases h
    · rename_i o ho
      simp only [Bool.and_eq_true, Bool.not_eq_true', Bool.or_eq_true] at h
      obtain ⟨⟨⟨h1, h2⟩, h3⟩, h4⟩ := h
      obtain ⟨ih1, ih2⟩ := chk_ok l _ h4
      have hb : ∀ j, Nat.testBit (Nat.lor seen (bitOf i)) j = true ↔ Nat.testBit seen j = true ∨ j = i := fun j => by
        rw [bit_lor, bit_bitOf, Bool.or_eq_true, decide_eq_true_eq]
        constructor
        · rintro (q | q)
          · exact .inl q
          · exact .inr q.symm
        · rintro (q | q)
          · exact .inl q
          · exact .inr q.symm
      refine ⟨fun l1 k l2 e => ?_, fun k hk => ?_⟩
      · cases l1 with
        | nil =>
          simp only [List.nil_append, List.cons.injEq] at e
          obtain ⟨rfl, rfl⟩ := e
          refine ⟨⟨o, ho, fun p hp => .inl (within_ok h1 ((bit_bitsOf p _).2 hp)), fun hs j hj => ?_⟩, by simpa using h2, by simp⟩
          rcases hj with hj | hj
          · rcases h3 with h3 | h3
            · rw [hs] at h3; cases h3
            · exact within_ok h3 hj
          · simp at hj
        | cons x l1 =>
          simp only [List.cons_append, List.cons.injEq] at e
          obtain ⟨rfl, rfl⟩ := e
          obtain ⟨⟨o', ho', k1, k2⟩, k3, k4⟩ := ih1 l1 k l2 rfl
          refine ⟨⟨o', ho', fun p hp => ?_, fun hs j hj => ?_⟩, fun q => k3 ((hb k).2 (.inl q)), ?_⟩
          · rcases k1 p hp with q | q
            · rcases (hb p).1 q with q | q
              · exact .inl q
              · exact .inr (by simp [q])
            · exact .inr (by simp [q])
          · refine k2 hs j ?_
            rcases hj with q | q
            · exact .inl ((hb j).2 (.inl q))
            · rcases List.mem_cons.1 q with q | q
              · exact .inl ((hb j).2 (.inr q))
              · exact .inr q
          · intro q
            rcases List.mem_cons.1 q with q | q
            · exact k3 ((hb k).2 (.inr q))
            · exact k4 q
      · rcases ih2 k hk with q | q
        · rcases (hb k).1 q with q | q
          · exact .inl q
          · exact .inr (by simp [q])
        · exact .inr (by simp [q])

theorem ordOne_ok {ms : List Nat} {j : Nat} {t : Tmp} : ∀ (l : List Oper) (k : Nat), ordOne ms j t l k = true → ∀ (i : Nat) o, l[i]? = some o → o.dst = some t → k + i = j ∨ Nat.testBit (ms.getD j 0) (k + i) = true ∨ Nat.testBit (ms.getD (k + i) 0) j = true
  | [], k, h, i, o, ho, hd => by simp at ho
  | o' :: l, k, h, i, o, ho, hd => by
    simp only [ordOne, Bool.and_eq_true] at h
    cases i with
    | zero =>
      simp only [List.getElem?_cons_zero, Option.some.injEq] at ho
      subst ho
      have h1 := h.1
      rw [hd] at h1
      simp only [Bool.or_eq_true, Bool.not_eq_true'] at h1
      simp only [Nat.add_zero]
      rcases h1 with ((q | q) | q) | q
      · have : Nat.beq t t = true := Nat.beq_refl t
        rw [this] at q; cases q
      · exact .inl (Nat.eq_of_beq_eq_true q)
      · exact .inr (.inl q)
      · exact .inr (.inr q)
    | succ i =>
      have := ordOne_ok l (k + 1) h.2 i o (by simpa using ho) hd
      rwa [show k + 1 + i = k + (i + 1) by omega] at this
theorem ordAll_ok {ops : Array Oper} {ms : List Nat} : ∀ (l : List Oper) (k : Nat), ordAll ops ms l k = true → ∀ (j : Nat) o, l[j]? = some o → ∀ t ∈ allReads ops o, ordOne ms (k + j) t ops.toList 0 = true
  | [], k, h, j, o, ho, t, ht => by simp at ho
  | o' :: l, k, h, j, o, ho, t, ht => by
    simp only [ordAll, Bool.and_eq_true] at h
    cases j with
    | zero =>
      simp only [List.getElem?_cons_zero, Option.some.injEq] at ho
      subst ho
      exact List.all_eq_true.1 h.1 t ht
    | succ j =>
      have := ordAll_ok l (k + 1) h.2 j o (by simpa using ho) t ht
      rwa [show k + 1 + j = k + (j + 1) by omega] at this

theorem nodupB_ok : ∀ (l : List Nat), nodupB l = true → l.Nodup
  | [], _ => List.nodup_nil
  | t :: l, h => by
    simp only [nodupB, Bool.and_eq_true, Bool.not_eq_true', List.any_eq_false] at h
    refine List.nodup_cons.2 ⟨fun hm => ?_, nodupB_ok l h.2⟩
    have := h.1 t hm
    exact this (Nat.beq_refl t)
theorem dsts_inj : ∀ (l : List Oper), (dstsOf l).Nodup → ∀ (i j : Nat) o o' t, l[i]? = some o → l[j]? = some o' → o.dst = some t → o'.dst = some t → i = j
  | [], _, i, j, o, o', t, h, _, _, _ => by simp at h
  | q :: l, h, i, j, o, o', t, hi, hj, hd, hd' => by
    have mem : ∀ (l : List Oper) (k : Nat) o, l[k]? = some o → o.dst = some t → t ∈ dstsOf l := by
      intro l
      induction l with
      | nil => intro k o h; simp at h
      | cons q l ih =>
        intro k o h hd
        cases k with
        | zero => simp at h; subst h; simp [dstsOf, hd]
        | succ k =>
          have := ih k o (by simpa using h) hd
          unfold dstsOf
          split
          · exact List.mem_cons_of_mem _ this
          · exact this
    have rest : (dstsOf l).Nodup := by
      unfold dstsOf at h
      split at h
      · exact (List.nodup_cons.1 h).2
      · exact h
    cases i with
    | zero =>
      simp only [List.getElem?_cons_zero, Option.some.injEq] at hi
      subst hi
      cases j with
      | zero => rfl
      | succ j =>
        exfalso
        have := mem l j o' (by simpa using hj) hd'
        simp only [dstsOf, hd] at h
        exact (List.nodup_cons.1 h).1 this
    | succ i =>
      cases j with
      | zero =>
        simp only [List.getElem?_cons_zero, Option.some.injEq] at hj
        subst hj
        exfalso
        have := mem l i o (by simpa using hi) hd
        simp only [dstsOf, hd'] at h
        exact (List.nodup_cons.1 h).1 this
      | succ j => rw [dsts_inj l rest i j o o' t (by simpa using hi) (by simpa using hj) hd hd']
end Go.Proofs.YtfcfliclmjikkaaGreatDoor.Ex
