/- The fast twin: iterators. -/
import Derived.Test.YtfcfliclmjikkaaGreatDoorFe
namespace Go.Proofs.YtfcfliclmjikkaaGreatDoor.Ex
open Go
set_option linter.unusedVariables false
set_option linter.unusedSimpArgs false

section
variable {E : Env} {nt : Nat} {ops : Array Oper} {c1 : CallF} {cf : Nat → CallF}
theorem one_mono (hw : Weak c1 cf) {o : Oper} {F : Fr} {H : AH} {s : St} (h : exOne E c1 nt ops o F H = some s) : ∃ N, ∀ L, N ≤ L → exOne E (cf L) nt ops o F H = some s := by
  unfold exOne at h ⊢
  cases hq : wantedA ops F o with
  | none => rw [hq] at h; cases h
  | some q =>
    rw [hq] at h
    cases q with
    | false => exact ⟨0, fun L _ => h⟩
    | true =>
      simp only at h ⊢
      cases hR : exOp E F o.op H with
      | none => rw [hR] at h; cases h
      | some R =>
        rw [hR] at h
        simp only at h ⊢
        cases R with
        | val v H' => exact ⟨0, fun L _ => h⟩
        | skip H' => exact ⟨0, fun L _ => h⟩
        | call f args H' =>
          simp only [finA] at h ⊢
          cases hc : c1 f args H' with
          | none => rw [hc] at h; cases h
          | some p =>
            obtain ⟨N, hN⟩ := hw _ _ _ _ hc
            exact ⟨N, fun L hL => by rw [hN L hL]; rw [hc] at h; exact h⟩
theorem draw_mono (hw : Weak c1 cf) : ∀ {l : List (Nat × Nat)} {F : Fr} {H : AH} {past : List AH} {ini : Tr Blk} {s : St}, exDraw E c1 nt ops l F H past ini = some s → ∃ N, ∀ L, N ≤ L → exDraw E (cf L) nt ops l F H past ini = some s
  | [], F, H, past, ini, s, h => ⟨0, fun L _ => h⟩
  | (i, d) :: l, F, H, past, ini, s, h => by
    simp only [exDraw] at h
    split at h
    · cases h
    · rename_i o ho
      split at h
      · cases h
      · rename_i s1 hs1
        obtain ⟨N1, h1⟩ := one_mono hw hs1
        split at h
        · rename_i hk
          obtain ⟨N, h4⟩ := draw_mono hw h
          exact ⟨max N1 N, fun L hL => by simp only [exDraw, ho, h1 L (by omega), hk]; exact h4 L (by omega)⟩
        · rename_i hk
          obtain ⟨N, h4⟩ := draw_mono hw h
          exact ⟨max N1 N, fun L hL => by simp only [exDraw, ho, h1 L (by omega), hk]; exact h4 L (by omega)⟩
        · rename_i hk
          obtain ⟨N, h4⟩ := draw_mono hw h
          exact ⟨max N1 N, fun L hL => by simp only [exDraw, ho, h1 L (by omega), hk]; exact h4 L (by omega)⟩
        · rename_i t a hk
          cases d with
          | zero =>
            obtain ⟨N, h4⟩ := draw_mono hw h
            exact ⟨max N1 N, fun L hL => by simp only [exDraw, ho, h1 L (by omega), hk]; exact h4 L (by omega)⟩
          | succ d =>
            simp only at h
            split at h
            · rename_i hb
              obtain ⟨N, h4⟩ := draw_mono hw h
              refine ⟨max N1 N, fun L hL => ?_⟩
              simp only [exDraw, ho, h1 L (by omega), hk]
              rw [hb]
              exact h4 L (by omega)
            · cases h
theorem tail_mono (hw : Weak c1 cf) {p q r : Oper} {F : Fr} {H : AH} {s : St} (h : exTail E c1 nt ops p q r F H = some s) : ∃ N, ∀ L, N ≤ L → exTail E (cf L) nt ops p q r F H = some s := by
  unfold exTail at h
  split at h
  · cases h
  · rename_i s1 h1
    obtain ⟨N1, g1⟩ := one_mono hw h1
    split at h
    · rename_i b c hb hc
      split at h
      · cases h
      · rename_i hbc
        split at h
        · cases h
        · rename_i s2 h2
          obtain ⟨N2, g2⟩ := one_mono hw h2
          obtain ⟨N3, g3⟩ := one_mono hw h
          refine ⟨max N1 (max N2 N3), fun L hL => ?_⟩
          unfold exTail
          rw [g1 L (by omega)]
          simp only [hb, hc, hbc]
          rw [g2 L (by omega)]
          exact g3 L (by omega)
    · cases h
theorem reg_mono (hw : Weak c1 cf) {F : Fr} {H : AH} {s : St} (h : exReg E c1 nt ops true F H = some s) : ∃ N, ∀ L, N ≤ L → exReg E (cf L) nt ops true F H = some s := by
  simp only [exReg] at h ⊢
  split at h
  · exact draw_mono hw h
  · split at h
    · split at h
      · rename_i s1 h1
        obtain ⟨N1, g1⟩ := draw_mono hw h1
        obtain ⟨N2, g2⟩ := tail_mono hw h
        exact ⟨max N1 N2, fun L hL => by simp only [g1 L (by omega)]; exact g2 L (by omega)⟩
      · cases h
    · cases h

def WeakR (r1 : RoundF) (rf : Nat → Nat → RoundF) : Prop := ∀ (args : List AV) (H : AH) (r : Ext × AH), r1 args H = some r → ∃ N, ∀ L n, N ≤ L → N ≤ n → rf L n args H = some r
variable {r1 : RoundF} {rf : Nat → Nat → RoundF} {y : Nat}
/-- What is a round's call is none of the runner's. -/
theorem yield_none {o : Oper} {s s' : IS} {rd : RoundF} (h : yieldX rd nt y ops o s = some s') (cl : CallF) : exOne E cl nt ops o s.F s.H = none := by
  unfold yieldX at h
  split at h
  · rename_i c hw hop hp
    split at h
    · rename_i f hf
      split at h
      · rename_i z hz
        unfold exOne
        rw [hw]
        simp only [hop, exOp, callX, hf, hz]
        cases opsA s.F c.args.toList <;> rfl
      · cases h
    · cases h
  · cases h
theorem yield_mono (hr : WeakR r1 rf) {o : Oper} {s s' : IS} (h : yieldX r1 nt y ops o s = some s') : ∃ N, ∀ L n, N ≤ L → N ≤ n → yieldX (rf L n) nt y ops o s = some s' := by
  unfold yieldX at h ⊢
  split at h
  · rename_i c hw hop hp
    split at h
    · rename_i f hf
      split at h
      · rename_i z hz
        split at h
        · rename_i hzy
          simp only [if_pos hzy]
          split at h
          · rename_i xs hxs

            split at h
            · rename_i e H' hround
              obtain ⟨N, hN⟩ := hr _ _ _ hround
              exact ⟨N, fun L n h1 h2 => by rw [hN L n h1 h2]; exact h⟩
            · cases h
          · cases h
        · cases h
      · cases h
    · cases h
  · cases h
theorem iOne_mono (hw : Weak c1 cf) (hr : WeakR r1 rf) {o : Oper} {s s' : IS} (h : exIOne E c1 r1 nt y ops o s = some s') : ∃ N, ∀ L n, N ≤ L → N ≤ n → exIOne E (cf L) (rf L n) nt y ops o s = some s' := by
  unfold exIOne at h ⊢
  split at h
  · rename_i s1 hs1
    obtain ⟨N, hN⟩ := one_mono hw hs1
    exact ⟨N, fun L n h1 _ => by rw [hN L h1]; exact h⟩
  · obtain ⟨N, hN⟩ := yield_mono hr h
    exact ⟨N, fun L n h1 h2 => by rw [yield_none h (cf L)]; exact hN L n h1 h2⟩
theorem iList_mono (hw : Weak c1 cf) (hr : WeakR r1 rf) : ∀ {l : List Oper} {s s' : IS}, exIList E c1 r1 nt y ops l s = some s' → ∃ N, ∀ L n, N ≤ L → N ≤ n → exIList E (cf L) (rf L n) nt y ops l s = some s'
  | [], s, s', h => ⟨0, fun L n _ _ => h⟩
  | o :: l, s, s', h => by
    simp only [exIList] at h
    split at h
    · rename_i s1 hs1
      obtain ⟨N1, h1⟩ := iOne_mono hw hr hs1
      obtain ⟨N, h2⟩ := iList_mono hw hr h
      exact ⟨max N1 N, fun L n h3 h4 => by simp only [exIList, h1 L n (by omega) (by omega)]; exact h2 L n (by omega) (by omega)⟩
    · cases h
theorem iC_mono (hw : Weak c1 cf) (hr : WeakR r1 rf) : ∀ (m : Nat) {c : Code} {s : IS} {q : Ext × IS}, exIC E c1 r1 nt y m c s = some q → ∃ N, ∀ L n m', N ≤ L → N ≤ n → N ≤ m' → exIC E (cf L) (rf L n) nt y m' c s = some q
  | 0, c, s, q, h => by simp [exIC] at h
  | m + 1, c, s, q, h => by
    have suc : ∀ {P : Nat → Nat → Nat → Prop} {N : Nat}, (∀ L n m', N ≤ L → N ≤ n → N ≤ m' → P L n (m' + 1)) → ∃ N, ∀ L n m', N ≤ L → N ≤ n → N ≤ m' → P L n m' := fun {P N} hP => ⟨N + 1, fun L n m' h1 h2 h3 => by
      obtain ⟨m'', rfl⟩ : ∃ k, m' = k + 1 := ⟨m' - 1, by omega⟩
      exact hP L n m'' (by omega) (by omega) (by omega)⟩
    cases c with
    | skip => exact suc (N := 0) fun L n m' _ _ _ => h
    | region id ops draw =>
      simp only [exIC] at h
      cases draw with
      | true =>
        simp only at h
        split at h
        · rename_i s1 hs1
          obtain ⟨N, h1⟩ := reg_mono hw hs1
          exact suc (N := N) fun L n m' h2 _ _ => by simp only [exIC, h1 L h2]; exact h
        · cases h
      | false =>
        simp only at h
        split at h
        · rename_i s1 hs1
          obtain ⟨N, h1⟩ := iList_mono hw hr hs1
          exact suc (N := N) fun L n m' h2 h3 _ => by simp only [exIC, h1 L n h2 h3]; exact h
        · cases h
    | seq a b =>
      simp only [exIC] at h
      split at h
      · rename_i s1 hs1
        obtain ⟨N1, h1⟩ := iC_mono hw hr m hs1
        obtain ⟨N, h2⟩ := iC_mono hw hr m h
        exact suc (N := max N1 N) fun L n m' h3 h4 h5 => by simp only [exIC, h1 L n m' (by omega) (by omega) (by omega)]; exact h2 L n m' (by omega) (by omega) (by omega)
      · rename_i hne
        obtain ⟨N1, h1⟩ := iC_mono hw hr m h
        refine suc (N := N1) fun L n m' h3 h4 h5 => ?_
        simp only [exIC, h1 L n m' h3 h4 h5]
        split
        · rename_i s1 hs1
          cases hs1
          exact absurd h (hne _)
        · rfl
    | cond b x z =>
      simp only [exIC] at h
      split at h
      · rename_i t ht
        cases t with
        | true =>
          obtain ⟨N, h1⟩ := iC_mono hw hr m h
          exact suc (N := N) fun L n m' h3 h4 h5 => by simp only [exIC, ht]; exact h1 L n m' h3 h4 h5
        | false =>
          obtain ⟨N, h1⟩ := iC_mono hw hr m h
          exact suc (N := N) fun L n m' h3 h4 h5 => by simp only [exIC, ht]; exact h1 L n m' h3 h4 h5
      · cases h
    | block id x =>
      simp only [exIC] at h
      split at h
      · rename_i j s1 hs1
        obtain ⟨N1, h1⟩ := iC_mono hw hr m hs1
        exact suc (N := N1) fun L n m' h3 h4 h5 => by simp only [exIC, h1 L n m' h3 h4 h5]; exact h
      · rename_i hne
        obtain ⟨N1, h1⟩ := iC_mono hw hr m h
        refine suc (N := N1) fun L n m' h3 h4 h5 => ?_
        simp only [exIC, h1 L n m' h3 h4 h5]
        split
        · rename_i j s1 hs1
          cases hs1
          exact absurd h (hne _ _)
        · rfl
    | loop x =>
      simp only [exIC] at h
      split at h
      · rename_i s1 hs1
        obtain ⟨N1, h1⟩ := iC_mono hw hr m hs1
        obtain ⟨N, h2⟩ := iC_mono hw hr m h
        exact suc (N := max N1 N) fun L n m' h3 h4 h5 => by simp only [exIC, h1 L n m' (by omega) (by omega) (by omega)]; exact h2 L n m' (by omega) (by omega) (by omega)
      · rename_i hne
        obtain ⟨N1, h1⟩ := iC_mono hw hr m h
        refine suc (N := N1) fun L n m' h3 h4 h5 => ?_
        simp only [exIC, h1 L n m' h3 h4 h5]
        split
        · rename_i s1 hs1
          cases hs1
          exact absurd h (hne _)
        · rfl
    | exit id => exact suc (N := 0) fun L n m' _ _ _ => h
    | scope x =>
      simp only [exIC] at h
      obtain ⟨N, h1⟩ := iC_mono hw hr m h
      exact suc (N := N) fun L n m' h3 h4 h5 => by simp only [exIC]; exact h1 L n m' h3 h4 h5
    | label l => exact suc (N := 0) fun L n m' _ _ _ => h
    | ret => exact suc (N := 0) fun L n m' _ _ _ => h
    | rangeFunc g ps a b => simp [exIC] at h
    | goto l => simp [exIC] at h
    | refuse w => simp [exIC] at h
theorem iter_mono (hw : Weak c1 cf) (hr : WeakR r1 rf) {m : Nat} {gf : FuncId} {cap : List AV} {H : AH} {q : Ext × AH} (h : iterA E c1 r1 m gf cap H = some q) : ∃ N, ∀ L n, N ≤ L → N ≤ n → iterA E (cf L) (rf L n) n gf cap H = some q := by
  unfold iterA at h ⊢
  split at h
  · cases h
  · rename_i i hi
    split at h
    · cases h
    · rename_i hn
      simp only [if_neg hn]
      split at h
      · cases h
      · rename_i e s hne hs
        obtain ⟨N, h1⟩ := iC_mono hw hr m hs
        refine ⟨N, fun L n h2 h3 => ?_⟩
        rw [h1 L n n h2 h3 h3]
        cases e with
        | exit j => exact (hne _ rfl).elim
        | normal => exact h
        | ret => exact h
      · cases h
end
end Go.Proofs.YtfcfliclmjikkaaGreatDoor.Ex
