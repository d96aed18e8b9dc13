/- The plain runner: names only grow; operations in a row. -/
import Derived.Test.YtfcfliclmjikkaaGreatDoorExq
namespace Go.Proofs.YtfcfliclmjikkaaGreatDoor.Ex
open Go
set_option linter.unusedVariables false
set_option linter.unusedSimpArgs false

theorem new_num {H H' : AH} {l : List AV} (h : H.new l = some H') : H.n ≤ H'.n := by rw [(AH.new_ok h).1]; omega
theorem store_num {H H' : AH} {b o : Nat} {l : List AV} (h : storeA H b o l = some H') : H'.n = H.n := by
  unfold storeA at h
  split at h
  · split at h
    · simp only [Option.some.injEq] at h; subst h; rfl
    · cases h
  · cases h

section
variable {E : Env} {γ : Cx} {N nt : Nat} {w : World} {F : Fr} {a : Act}

theorem exOp_num {o : Op} {H : AH} {r : R} (h : exOp E F o H = some r) : H.n ≤ r.n := by
  have hv : ∀ {x}, vR H x = some r → H.n ≤ r.n := fun e => by obtain ⟨v, _, rfl⟩ := vR_some e; exact Nat.le_refl _
  have hn : ∀ {l v}, newR H l v = some r → H.n ≤ r.n := fun e => by obtain ⟨H', e1, rfl⟩ := newR_some e; exact new_num e1
  have he : ∀ {v}, some (R.val v H) = some r → H.n ≤ r.n := fun e => by simp only [Option.some.injEq] at e; subst e; exact Nat.le_refl _
  have h1 : ∀ {v H'}, H.n ≤ H'.n → some (R.val v H') = some r → H.n ≤ r.n := fun q e => by simp only [Option.some.injEq] at e; subst e; exact q
  cases o <;> simp only [exOp] at h <;> try (cases h; done)
  case call c =>
    unfold callX at h
    split at h
    · cases h
    · split at h
      · split at h
        · unfold callA at h
          split at h
          · simp only [Option.some.injEq] at h; subst h; exact Nat.le_refl _
          · cases h
        · cases h
      · cases h
      · rename_i b _
        cases b <;> simp only [builtinX] at h <;> try (cases h; done)
        · split at h
          · unfold appendA at h
            split at h
            · split at h
              · split at h
                · split at h
                  · unfold zerosA at h
                    split at h
                    · split at h
                      · split at h
                        · split at h
                          · rename_i hnw; exact h1 (new_num hnw) h
                          · cases h
                        · cases h
                      · cases h
                    · cases h
                  · split at h
                    · cases h
                    · unfold appendE at h
                      split at h
                      · split at h <;> first | exact he h | cases h
                      · split at h
                        · cases h
                        · split at h
                          · split at h
                            · split at h
                              · split at h
                                · rename_i hnw; exact h1 (new_num hnw) h
                                · cases h
                              · cases h
                            · split at h
                              · unfold growA at h
                                split at h
                                · cases h
                                · split at h
                                  · split at h
                                    · exact h1 (by simp only; omega) h
                                    · split at h
                                      · exact h1 (by simp only; omega) h
                                      · cases h
                                  · cases h
                              · cases h
                            · cases h
                          · cases h
                · cases h
              · cases h
            · cases h
          · cases h
        · split at h
          · split at h
            · exact he h
            · cases h
          · cases h
        · split at h
          · unfold clearX at h
            split at h
            · split at h
              · split at h
                · split at h
                  · exact he h
                  · split at h
                    · split at h
                      · rename_i hs; exact h1 (by rw [store_num hs]; exact Nat.le_refl _) h
                      · cases h
                    · cases h
                  · cases h
                · cases h
              · cases h
            · cases h
          · cases h
        · split at h
          · split at h
            · exact he h
            · cases h
          · cases h
        · split at h
          · exact hv h
          · cases h
        · split at h
          · exact hv h
          · cases h
  case store t x y =>
    unfold storeX at h
    split at h
    · split at h
      · split at h
        · split at h
          · rename_i hs
            simp only [Option.some.injEq] at h; subst h
            simp only [R.n]; rw [store_num hs]; exact Nat.le_refl _
          · cases h
        · cases h
      · cases h
    · cases h
  case convert s d x =>
    unfold convX at h
    split at h
    · unfold convA at h
      split at h
      · cases h
      · split at h
        · cases h
        · split at h
          · unfold convI at h
            split at h
            · exact he h
            · split at h
              · exact he h
              · cases h
            · cases h
          · split at h
            · unfold convB at h
              split at h
              · split at h
                · split at h
                  · split at h
                    · rename_i hnw; exact h1 (new_num hnw) h
                    · cases h
                  · cases h
                · cases h
              · cases h
            · cases h
          · unfold convS at h
            split at h
            · exact he h
            · split at h
              · split at h
                · split at h
                  · exact he h
                  · split at h
                    · split at h
                      · exact he h
                      · cases h
                    · cases h
                  · cases h
                · cases h
              · cases h
          · cases h
    · cases h
  all_goals first
    | exact hv h
    | (unfold pickX at h; (repeat' (split at h)) <;> first | (cases h; done) | exact hv h)
    | (unfold allocX at h; (repeat' (split at h)) <;> first | (cases h; done) | exact hn h)
    | (unfold boxX at h; (repeat' (split at h)) <;> first | (cases h; done) | exact hn h)
    | (unfold buildX fillR at h; (repeat' (split at h)) <;> first | (cases h; done) | exact he h)
    | (unfold buildSliceX at h; (repeat' (split at h)) <;> first | (cases h; done) | exact hn h)
    | (unfold loadX at h; (repeat' (split at h)) <;> first | (cases h; done) | exact hv h)
    | (unfold nilCheckX at h; (repeat' (split at h)) <;> first | (cases h; done) | exact he h)
    | (unfold binX at h; (repeat' (split at h)) <;> first | (cases h; done) | exact he h | exact hv h)
    | (unfold unX at h; (repeat' (split at h)) <;> first | (cases h; done) | exact hv h)
    | (unfold ifaceX at h; (repeat' (split at h)) <;> first | (cases h; done) | exact he h)
    | (unfold makeSliceX at h; (repeat' (split at h)) <;> first | (cases h; done) | exact hn h)
    | (unfold sliceX at h; (repeat' (split at h)) <;> first | (cases h; done) | exact hv h)
    | (unfold fieldAddrX at h; (repeat' (split at h)) <;> first | (cases h; done) | exact he h)
    | (unfold fieldX at h; (repeat' (split at h)) <;> first | (cases h; done) | exact hv h)
    | (unfold indexAddrX at h; (repeat' (split at h)) <;> first | (cases h; done) | exact he h)
    | (unfold indexX at h; (repeat' (split at h)) <;> first | (cases h; done) | exact he h | exact hv h)
    | (unfold assertX at h; (repeat' (split at h)) <;> first | (cases h; done) | exact he h)
    | (unfold extractX at h; (repeat' (split at h)) <;> first | (cases h; done) | exact hv h)
    | (split at h <;> first | (cases h; done) | (unfold funcX at h; (repeat' (split at h)) <;> first | (cases h; done) | exact he h))

def NumOk (call : CallF) : Prop := ∀ {f : FuncId} {as : List AV} {H H' : AH} {v : AV}, call f as H = some (v, H') → H.n ≤ H'.n

theorem finA_num {call : CallF} (hnum : NumOk call) {o : Op} {H : AH} {nt : Nat} {d : Option Tmp} {r : R} {s : St} (ho : exOp E F o H = some r) (h : finA call nt F d r = some s) : H.n ≤ s.H.n := by
  have := exOp_num ho
  unfold finA at h
  cases r with
  | val v H' =>
    simp only at h
    split at h
    · simp only [Option.some.injEq] at h; subst h; exact this
    · cases h
  | skip H' =>
    simp only at h
    split at h
    · simp only [Option.some.injEq] at h; subst h; exact this
    · cases h
  | call f as H' =>
    simp only at h
    split at h
    · rename_i v H'' hc
      split at h
      · simp only [Option.some.injEq] at h; subst h; exact Nat.le_trans this (hnum hc)
      · cases h
    · cases h
theorem exOne_num {call : CallF} (hnum : NumOk call) {ops : Array Oper} {o : Oper} {H : AH} {s : St} (h : exOne E call nt ops o F H = some s) : H.n ≤ s.H.n := by
  unfold exOne at h
  split at h
  · split at h
    · rename_i r hr
      exact finA_num hnum hr h
    · cases h
  · split at h
    · simp only [Option.some.injEq] at h; subst h; exact Nat.le_refl _
    · cases h
  · cases h
theorem exList_num {call : CallF} (hnum : NumOk call) {ops : Array Oper} : ∀ {l : List Oper} {F : Fr} {H : AH} {s : St}, exList E call nt ops l F H = some s → H.n ≤ s.H.n
  | [], F, H, s, h => by simp only [exList, Option.some.injEq] at h; subst h; exact Nat.le_refl _
  | o :: l, F, H, s, h => by
    simp only [exList] at h
    split at h
    · rename_i s1 h1
      exact Nat.le_trans (exOne_num hnum h1) (exList_num hnum h)
    · split at h
      · exact exList_num hnum h
      · cases h
theorem exDraw_num {call : CallF} (hnum : NumOk call) {ops : Array Oper} : ∀ {l : List (Nat × Nat)} {F : Fr} {H : AH} {past : List AH} {ini : Tr Blk} {s : St}, exDraw E call nt ops l F H past ini = some s → H.n ≤ s.H.n
  | [], F, H, past, ini, s, h => by simp only [exDraw, Option.some.injEq] at h; subst h; exact Nat.le_refl _
  | (i, d) :: l, F, H, past, ini, s, h => by
    simp only [exDraw] at h
    split at h
    · cases h
    · split at h
      · cases h
      · rename_i s1 h1
        refine Nat.le_trans (exOne_num hnum h1) ?_
        split at h
        · exact exDraw_num hnum h
        · exact exDraw_num hnum h
        · exact exDraw_num hnum h
        · split at h
          · exact exDraw_num hnum h
          · split at h
            · exact exDraw_num hnum h
            · cases h
theorem exTail_num {call : CallF} (hnum : NumOk call) {ops : Array Oper} {p q r : Oper} {F : Fr} {H : AH} {s : St} (h : exTail E call nt ops p q r F H = some s) : H.n ≤ s.H.n := by
  unfold exTail at h
  split at h
  · cases h
  · rename_i s1 h1
    split at h
    · split at h
      · cases h
      · split at h
        · cases h
        · rename_i s2 h2
          exact Nat.le_trans (exOne_num hnum h1) (Nat.le_trans (exOne_num hnum h2) (exOne_num hnum h))
    · cases h
theorem exReg_num {call : CallF} (hnum : NumOk call) {ops : Array Oper} {draw : Bool} {F : Fr} {H : AH} {s : St} (h : exReg E call nt ops draw F H = some s) : H.n ≤ s.H.n := by
  unfold exReg at h
  split at h
  · exact exList_num hnum h
  · split at h
    · exact exDraw_num hnum h
    · split at h
      · split at h
        · rename_i s1 h1
          exact Nat.le_trans (exDraw_num hnum h1) (exTail_num hnum h)
        · cases h
      · cases h
theorem exI_num {call : CallF} (hnum : NumOk call) {rounds : RoundF} (hr : ∀ {xs H e H'}, rounds xs H = some (e, H') → H.n ≤ H'.n) {ops : Array Oper} {y : Nat} {o : Oper} {s s' : IS} (h : exIOne E call rounds nt y ops o s = some s') : s.H.n ≤ s'.H.n := by
  unfold exIOne at h
  split at h
  · rename_i s1 h1
    simp only [Option.some.injEq] at h
    rw [← h]
    exact exOne_num hnum h1
  · unfold yieldX at h
    split at h
    · split at h
      · split at h
        · split at h
          · split at h
            · split at h
              · rename_i e H' h2
                split at h
                · simp only [Option.some.injEq] at h
                  rw [← h]
                  exact hr h2
                · cases h
              · cases h
            · cases h
          · cases h
        · cases h
      · cases h
    · cases h
theorem exIList_num {call : CallF} (hnum : NumOk call) {rounds : RoundF} (hr : ∀ {xs H e H'}, rounds xs H = some (e, H') → H.n ≤ H'.n) {ops : Array Oper} {y : Nat} : ∀ {l : List Oper} {s s' : IS}, exIList E call rounds nt y ops l s = some s' → s.H.n ≤ s'.H.n
  | [], s, s', h => by simp only [exIList, Option.some.injEq] at h; rw [h]; exact Nat.le_refl _
  | o :: l, s, s', h => by
    simp only [exIList] at h
    split at h
    · rename_i s1 h1
      exact Nat.le_trans (exI_num hnum hr h1) (exIList_num hnum hr h)
    · cases h
theorem exIC_num {call : CallF} (hnum : NumOk call) {rounds : RoundF} (hr : ∀ {xs H e H'}, rounds xs H = some (e, H') → H.n ≤ H'.n) {y : Nat} : ∀ {n : Nat} {c : Code} {s s' : IS} {e : Ext}, exIC E call rounds nt y n c s = some (e, s') → s.H.n ≤ s'.H.n
  | 0, c, s, s', e, h => by simp [exIC] at h
  | n + 1, c, s, s', e, h => by
    have fin : ∀ {e' : Ext}, some (e', s) = some (e, s') → s.H.n ≤ s'.H.n := fun q => by
      simp only [Option.some.injEq, Prod.mk.injEq] at q
      rw [← q.2]
      exact Nat.le_refl _
    cases c <;> simp only [exIC] at h <;> try (first | exact fin h | (cases h; done))
    · split at h
      · split at h
        · rename_i s1 h1
          simp only [Option.some.injEq, Prod.mk.injEq] at h
          rw [← h.2]
          exact exReg_num hnum h1
        · cases h
      · split at h
        · rename_i s1 h1
          simp only [Option.some.injEq, Prod.mk.injEq] at h
          rw [← h.2]
          exact exIList_num hnum hr h1
        · cases h
    · split at h
      · rename_i s1 h1
        exact Nat.le_trans (exIC_num hnum hr h1) (exIC_num hnum hr h)
      · exact exIC_num hnum hr h
    · split at h
      · split at h
        · exact exIC_num hnum hr h
        · exact exIC_num hnum hr h
      · cases h
    · split at h
      · rename_i j s1 h1
        simp only [Option.some.injEq, Prod.mk.injEq] at h
        rw [← h.2]
        exact exIC_num hnum hr h1
      · exact exIC_num hnum hr h
    · split at h
      · rename_i s1 h1
        exact Nat.le_trans (exIC_num hnum hr h1) (exIC_num hnum hr h)
      · exact exIC_num hnum hr h
    · exact exIC_num hnum hr h
theorem iterA_num {call : CallF} (hnum : NumOk call) {rounds : RoundF} (hr : ∀ {xs H e H'}, rounds xs H = some (e, H') → H.n ≤ H'.n) {n : Nat} {gf : FuncId} {cap : List AV} {H H' : AH} {e : Ext} (h : iterA E call rounds n gf cap H = some (e, H')) : H.n + 1 ≤ H'.n := by
  unfold iterA at h
  split at h
  · cases h
  · split at h
    · cases h
    · split at h
      · cases h
      · rename_i s hc
        have := exIC_num hnum hr hc
        split at h
        · split at h <;> first | (cases h; done) | (simp only [Option.some.injEq, Prod.mk.injEq] at h; rw [← h.2]; exact this)
        · cases h
      · cases h
theorem roundA_num {ex : Code → Fr → AH → Option (Ext × St)} (hex : ∀ {c F H e s}, ex c F H = some (e, s) → H.n ≤ s.H.n) {ps : List Tmp} {assign body : Code} {xs : List AV} {H H' : AH} {e : Ext} (h : roundA ex nt F ps assign body xs H = some (e, H')) : H.n ≤ H'.n := by
  unfold roundA at h
  split at h
  · split at h
    · rename_i s1 h1
      split at h
      · rename_i e2 s2 h2
        simp only [Option.some.injEq, Prod.mk.injEq] at h
        rw [← h.2]
        exact Nat.le_trans (hex h1) (hex h2)
      · cases h
    · cases h
  · cases h
theorem range_num {call : CallF} (hnum : NumOk call) {n : Nat} (hex : ∀ {c F H e s}, exC E call nt n c F H = some (e, s) → H.n ≤ s.H.n) {g : Operand} {ps : Array Tmp} {assign body : Code} {H : AH} {e : Ext} {s : St}
    (h : (match noRange assign && noRange body with
      | false => none
      | true => match opA F g with
        | some (.func gf [] cap) => match iterA E call (roundA (exC E call nt n) nt F ps.toList assign body) n gf cap H with
          | some (e, H') => some (e, ⟨F, H'⟩)
          | none => none
        | _ => none) = some (e, s)) : H.n ≤ s.H.n := by
  split at h
  · cases h
  · split at h
    · split at h
      · rename_i e2 H2 h2
        simp only [Option.some.injEq, Prod.mk.injEq] at h
        rw [← h.2]
        have := iterA_num hnum (fun q => roundA_num hex q) h2
        show H.n ≤ H2.n
        omega
      · cases h
    · cases h
theorem exC_num {call : CallF} (hnum : NumOk call) : ∀ {n : Nat} {c : Code} {F : Fr} {H : AH} {e : Ext} {s : St}, exC E call nt n c F H = some (e, s) → H.n ≤ s.H.n
  | 0, c, F, H, e, s, h => by simp [exC] at h
  | n + 1, c, F, H, e, s, h => by
    have fin : ∀ {e' : Ext} {F' : Fr}, some (e', (⟨F', H⟩ : St)) = some (e, s) → H.n ≤ s.H.n := fun q => by
      simp only [Option.some.injEq, Prod.mk.injEq] at q
      rw [← q.2]
      exact Nat.le_refl _
    cases c <;> simp only [exC] at h <;> try (first | exact fin h | (cases h; done))
    · split at h
      · rename_i s1 h1
        simp only [Option.some.injEq, Prod.mk.injEq] at h
        rw [← h.2]
        exact exReg_num hnum h1
      · cases h
    · split at h
      · rename_i s1 h1
        exact Nat.le_trans (exC_num hnum h1) (exC_num hnum h)
      · exact exC_num hnum h
    · split at h
      · split at h
        · exact exC_num hnum h
        · exact exC_num hnum h
      · cases h
    · split at h
      · rename_i j s1 h1
        simp only [Option.some.injEq, Prod.mk.injEq] at h
        rw [← h.2]
        exact exC_num hnum h1
      · exact exC_num hnum h
    · split at h
      · rename_i s1 h1
        exact Nat.le_trans (exC_num hnum h1) (exC_num hnum h)
      · exact exC_num hnum h
    · exact range_num hnum (fun q => exC_num hnum q) h
    · exact exC_num hnum h
def HookNum (E : Env) : Prop := ∀ {f : FuncId} {as : List AV} {H H' : AH} {v : AV}, E.hook f as H = some (v, H') → H.n ≤ H'.n
theorem exF_num (hk : HookNum E) {L : Nat} : ∀ (n : Nat), NumOk (exF E L n)
  | 0 => by intro h; simp [exF] at h
  | n + 1 => by
    intro h
    simp only [exF] at h
    split at h
    · rename_i r hr
      simp only [Option.some.injEq] at h
      subst h
      exact hk hr
    · split at h
      · cases h
      · split at h
        · cases h
        · split at h
          · cases h
          · rename_i e s hc
            split at h
            · simp only [Option.some.injEq, Prod.mk.injEq] at h
              rw [← h.2]
              exact exC_num (exF_num hk n) hc
            · cases h
          · cases h
end
end Go.Proofs.YtfcfliclmjikkaaGreatDoor.Ex
