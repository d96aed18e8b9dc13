/- The plain runner: what an operation reads, and what kind it is. -/
import Derived.Test.YtfcfliclmjikkaaGreatDoorExu
namespace Go.Proofs.YtfcfliclmjikkaaGreatDoor.Ex
open Go
set_option linter.unusedVariables false
set_option linter.unusedSimpArgs false
section
variable {E : Env} {F F' : Fr}

def Agree (F F' : Fr) (l : List Tmp) : Prop := ∀ t ∈ l, tmpA F t = tmpA F' t
theorem Agree.left {l r : List Tmp} (h : Agree F F' (l ++ r)) : Agree F F' l := fun t ht => h t (List.mem_append_left _ ht)
theorem Agree.right {l r : List Tmp} (h : Agree F F' (l ++ r)) : Agree F F' r := fun t ht => h t (List.mem_append_right _ ht)

theorem opA_reads {x : Operand} (h : Agree F F' (slotsOf1 x)) : opA F x = opA F' x := by
  cases x with
  | tmp t => simp only [opA]; rw [h t (by simp [slotsOf1])]
  | _ => rfl
theorem opsA_reads : ∀ {l : List Operand}, Agree F F' (slotsOf l) → opsA F l = opsA F' l
  | [], _ => rfl
  | x :: l, h => by
    simp only [slotsOf] at h
    simp only [opsA]
    rw [opA_reads h.left, opsA_reads h.right]
theorem partsA_reads : ∀ {l : List (Nat × Operand)}, Agree F F' (slotsP l) → partsA F l = partsA F' l
  | [], _ => rfl
  | (j, x) :: l, h => by
    simp only [slotsP] at h
    simp only [partsA]
    rw [opA_reads h.left, partsA_reads h.right]
theorem optA_reads {x : Option Operand} (h : Agree F F' (slotsO x)) : optA F x = optA F' x := by
  cases x with
  | none => rfl
  | some x => simp only [optA]; rw [opA_reads (by simpa [slotsO] using h)]
theorem two_reads {x y : Operand} (h : Agree F F' (slotsOf [x, y])) : opA F x = opA F' x ∧ opA F y = opA F' y := by
  simp only [slotsOf, List.append_nil] at h
  exact ⟨opA_reads h.left, opA_reads h.right⟩

theorem exOp_reads {o : Op} (h : Agree F F' (readsOf o)) (H : AH) : exOp E F o H = exOp E F' o H := by
  cases o <;> simp only [readsOf] at h <;> simp only [exOp] <;> try rfl
  case move => rw [opA_reads h]
  case assign => rw [opA_reads h]
  case pick a b c =>
    simp only [slotsOf, List.append_nil] at h
    unfold pickX
    rw [opA_reads h.left, opA_reads h.right.left, opA_reads h.right.right]
  case box => unfold boxX; rw [opA_reads h]
  case build => unfold buildX; rw [partsA_reads h]
  case buildSlice => unfold buildSliceX; rw [partsA_reads h]
  case load => unfold loadX; rw [opA_reads h]
  case store => unfold storeX; rw [(two_reads h).1, (two_reads h).2]
  case nilCheck => unfold nilCheckX; rw [opA_reads h]
  case binOp => unfold binX; rw [(two_reads h).1, (two_reads h).2]
  case unOp => unfold unX; rw [opA_reads h]
  case convert => unfold convX; rw [opA_reads h]
  case makeInterface => unfold ifaceX; rw [opA_reads h]
  case makeFunc f a b =>
    cases f <;> simp only
    unfold funcX
    rw [opsA_reads h.left, opsA_reads h.right]
  case makeSlice => unfold makeSliceX; rw [(two_reads h).1, (two_reads h).2]
  case slice =>
    unfold sliceX
    rw [opA_reads h.left, optA_reads h.right.left, optA_reads h.right.right.left, optA_reads h.right.right.right]
  case fieldAddr => unfold fieldAddrX; rw [opA_reads h]
  case field => unfold fieldX; rw [opA_reads h]
  case indexAddr => unfold indexAddrX; rw [(two_reads h).1, (two_reads h).2]
  case index => unfold indexX; rw [(two_reads h).1, (two_reads h).2]
  case typeAssert => unfold assertX; rw [opA_reads h]
  case extract => unfold extractX; rw [opA_reads h]
  case call c =>
    unfold callX
    rw [opsA_reads h.left]
    split
    · rfl
    · cases hc : c.callee with
      | value f =>
        have h2 := h.right
        rw [hc] at h2
        simp only
        rw [opA_reads h2]
      | invoke r m => rfl
      | builtin b => rfl

theorem wantedA_reads {ops : Array Oper} {o : Oper} (h : Agree F F' (guardReads ops o)) : wantedA ops F o = wantedA ops F' o := by
  unfold wantedA
  unfold guardReads at h
  cases hg : o.guard with
  | none => rfl
  | some q =>
    obtain ⟨j, want⟩ := q
    simp only [hg] at h ⊢
    cases hj : ops[j]? with
    | none => rfl
    | some g =>
      simp only [hj] at h ⊢
      cases hd : g.dst with
      | none => rfl
      | some t =>
        simp only [hd] at h ⊢
        rw [h t (by simp)]

theorem pure_kind {o : Op} (hk : okOf E.ty o = .pure) {H : AH} {r : R} (h : exOp E F o H = some r) : ∃ v, r = .val v H ∧ ∀ H' : AH, exOp E F o H' = some (.val v H') := by
  have hv : ∀ {x : Option AV}, vR H x = some r → ∃ v, r = .val v H ∧ ∀ H' : AH, vR H' x = some (.val v H') := fun e => by
    obtain ⟨v, rfl, rfl⟩ := vR_some e
    exact ⟨v, rfl, fun _ => rfl⟩
  have he : ∀ {v : AV}, some (R.val v H) = some r → r = .val v H := fun e => by simp only [Option.some.injEq] at e; exact e.symm
  cases o <;> simp only [okOf] at hk <;> (try (cases hk; done)) <;> simp only [exOp] at h ⊢
  case move => exact hv h
  case assign => exact hv h
  case convert src d x =>
    split at hk
    · rename_i hi
      unfold convX at h ⊢
      cases hx : opA F x with
      | none => rw [hx] at h; cases h
      | some a =>
        rw [hx] at h
        simp only at h ⊢
        unfold convA at h ⊢
        unfold isIntTy at hi
        cases hs : E.ty.get src with
        | none => rw [hs] at h; cases h
        | some si =>
          rw [hs] at h
          simp only at h ⊢
          cases hd : E.ty.get d with
          | none => rw [hd] at h; cases h
          | some di =>
            rw [hd] at h hi
            simp only at h hi ⊢
            split at hi
            · rename_i k hk
              rw [hk] at h ⊢
              simp only at h ⊢
              unfold convI at h ⊢
              split at h
              · exact ⟨_, he h, fun H' => rfl⟩
              · split at h
                · exact ⟨_, he h, fun H' => rfl⟩
                · cases h
              · cases h
            · cases hi
    · cases hk
  case pick =>
    unfold pickX at h ⊢
    split at h
    · split at h
      · exact hv h
      · exact hv h
    · cases h
  case build =>
    unfold buildX fillR at h ⊢
    split at h
    · split at h
      · split at h
        · split at h
          · rename_i hc
            simp only [if_pos hc]
            split at h
            · split at h
              · exact ⟨_, he h, fun _ => rfl⟩
              · cases h
            · cases h
          · cases h
        · split at h
          · split at h
            · split at h
              · exact ⟨_, he h, fun _ => rfl⟩
              · cases h
            · cases h
          · cases h
        · cases h
      · cases h
    · cases h
  case nilCheck =>
    unfold nilCheckX at h ⊢
    split at h
    · split at h <;> first | exact ⟨_, he h, fun _ => rfl⟩ | cases h
    · cases h
  case binOp =>
    unfold binX at h ⊢
    split at h
    · split at h
      · split at h
        · exact ⟨_, he h, fun _ => rfl⟩
        · exact hv h
      · cases h
    · cases h
  case unOp =>
    unfold unX at h ⊢
    split at h
    · exact hv h
    · cases h
  case makeInterface =>
    unfold ifaceX at h ⊢
    split at h
    · split at h
      · split at h
        · cases h
        · exact ⟨_, he h, fun _ => rfl⟩
      · cases h
    · cases h
  case makeFunc f a b =>
    cases f <;> simp only at h ⊢ <;> try (cases h; done)
    unfold funcX at h ⊢
    split at h
    · split at h
      · exact ⟨_, he h, fun _ => rfl⟩
      · cases h
    · cases h
  case slice =>
    unfold sliceX at h ⊢
    split at h
    · split at h
      · exact hv h
      · cases h
    · cases h
  case fieldAddr =>
    unfold fieldAddrX at h ⊢
    split at h
    · split at h
      · exact ⟨_, he h, fun _ => rfl⟩
      · cases h
    · cases h
  case field =>
    unfold fieldX at h ⊢
    split at h
    · split at h
      · exact hv h
      · cases h
    · cases h
  case indexAddr =>
    unfold indexAddrX at h ⊢
    split at h
    · split at h
      · split at h
        · split at h
          · rename_i hc
            simp only [if_pos hc]
            exact ⟨_, he h, fun _ => rfl⟩
          · cases h
        · cases h
      · split at h
        · split at h
          · rename_i hc
            simp only [if_pos hc]
            exact ⟨_, he h, fun _ => rfl⟩
          · cases h
        · cases h
      · cases h
    · cases h
  case index =>
    unfold indexX at h ⊢
    split at h
    · split at h
      · split at h
        · exact ⟨_, he h, fun _ => rfl⟩
        · cases h
      · split at h
        · split at h
          · rename_i hc
            simp only [if_pos hc]
            exact hv h
          · cases h
        · cases h
      · cases h
    · cases h
  case typeAssert =>
    unfold assertX at h ⊢
    split at h
    · split at h
      · split at h
        · cases h
        · split at h
          · rename_i hc
            simp only [if_pos hc]
            exact ⟨_, he h, fun _ => rfl⟩
          · cases h
      · cases h
    · cases h
  case extract =>
    unfold extractX at h ⊢
    split at h
    · exact hv h
    · cases h
  case call c =>
    unfold callX at h ⊢
    split at hk <;> (try (cases hk; done))
    all_goals
      rename_i hc
      split at h
      · cases h
      · rename_i xs hx
        rw [hc] at h
        simp only [builtinX] at h
        split at h <;> try (cases h; done)
        first
          | (split at h
             · refine ⟨_, he h, fun H' => ?_⟩
               simp_all [builtinX]
             · cases h)
          | (obtain ⟨v, hv1, hv2⟩ := hv h
             refine ⟨v, hv1, fun H' => ?_⟩
             have := hv2 H'
             simp_all [builtinX])

theorem load_kind {o : Op} {t : TypeId} {a : Operand} (hk : okOf E.ty o = .load t a) : o = .load t a := by
  cases o <;> simp only [okOf] at hk <;> try (cases hk; done)
  case load => simp only [OK.load.injEq] at hk; rw [hk.1, hk.2]
  all_goals (split at hk <;> cases hk)

theorem alloc_kind {o : Op} (hk : okOf E.ty o = .alloc) {H : AH} {r : R} (h : exOp E F o H = some r) :
    ∃ v l H1, r = .val v H1 ∧ H.new l = some H1 ∧ ∀ H' : AH, H'.n = H.n → ∃ H1', H'.new l = some H1' ∧ exOp E F o H' = some (.val v H1') := by
  have key : ∀ {l : List AV} {v : AH → AV}, (∀ H' : AH, H'.n = H.n → v H' = v H) → newR H l (v H) = some r → ∃ v0 l0 H1, r = .val v0 H1 ∧ H.new l0 = some H1 ∧ ∀ H' : AH, H'.n = H.n → ∃ H1', H'.new l0 = some H1' ∧ newR H' l (v H') = some (.val v0 H1') := fun {l v} hveq e => by
    obtain ⟨H1, e1, rfl⟩ := newR_some e
    refine ⟨_, l, H1, rfl, e1, fun H' hn => ?_⟩
    have hall := (AH.new_ok e1).2.2
    refine ⟨⟨H'.n + 1, H'.bs.set H'.n ⟨l.length, Tr.nil.put 0 l⟩⟩, by unfold AH.new; rw [if_pos hall], ?_⟩
    unfold newR AH.new
    rw [if_pos hall, hveq H' hn]
  cases o <;> simp only [okOf] at hk <;> (try (cases hk; done)) <;> (try (split at hk <;> cases hk)) <;> simp only [exOp] at h ⊢
  case alloc t =>
    unfold allocX at h ⊢
    split at h
    · split at h
      · exact key (v := fun H => .ptr H.n 0) (fun H' e => by simp [e]) h
      · cases h
    · cases h
  case box =>
    unfold boxX at h ⊢
    split at h
    · exact key (v := fun H => .ptr H.n 0) (fun H' e => by simp [e]) h
    · cases h
  case buildSlice t len ps =>
    unfold buildSliceX at h ⊢
    split at h
    · split at h
      · split at h
        · split at h
          · split at h
            · rename_i hc
              simp only [if_pos hc]
              split at h
              · split at h
                · exact key (v := fun H => .slice H.n 0 len _ true) (fun H' e => by simp [e]) h
                · cases h
              · cases h
            · cases h
          · cases h
        · cases h
      · cases h
    · cases h
  case makeSlice t l c =>
    unfold makeSliceX at h ⊢
    split at h
    · split at h
      · split at h
        · split at h
          · split at h
            · rename_i hc
              simp only [if_pos hc]
              exact key (v := fun H => .slice H.n 0 _ _ true) (fun H' e => by simp [e]) h
            · cases h
          · cases h
        · cases h
      · cases h
    · cases h
end
end Go.Proofs.YtfcfliclmjikkaaGreatDoor.Ex
