/- The fast twin: regions. -/
import Derived.Test.YteopodohghnokaaGreatDoorXf
import Derived.Test.YteopodohghnokaaGreatDoorXe
import Derived.WideMake
section
namespace Go.Proofs.YteopodohghnokaaGreatDoor.Ex
open Go
set_option linter.unusedVariables false
set_option linter.unusedSimpArgs false

/-- A quick call says what the runner's calls say, given room. -/
def Sim (call : CallK) (cf : Nat → CallF) : Prop := ∀ (f : FuncId) (args : List AV) (H : AH) (k : KV) (r : Ext × AV × AH), call f args H k = some r → ∃ v H' N, (∀ L, N ≤ L → cf L f args H = some (v, H')) ∧ k v H' = some r

theorem memo_ok {call : CallK} {cf : Nat → CallF} (hs : Sim call cf) {f : FuncId} {args : List AV} {H : AH} {k : KV} {r : Ext × AV × AH} (h : memoK (call f args H endK) k = some r) : ∃ v H' N, (∀ L, N ≤ L → cf L f args H = some (v, H')) ∧ k v H' = some r := by
  cases hx : call f args H endK with
  | none => rw [hx] at h; cases h
  | some p =>
    obtain ⟨e, v, H'⟩ := p
    rw [hx] at h
    obtain ⟨v', H'', N, h1, h2⟩ := hs _ _ _ _ _ hx
    simp only [endK, Option.some.injEq, Prod.mk.injEq] at h2
    obtain ⟨-, rfl, rfl⟩ := h2
    exact ⟨_, _, N, h1, h⟩
section
variable {E : Env} {nt : Nat} {ops : Array Oper} {call : CallK} {cf : Nat → CallF}
def dstOk (nt : Nat) (d : Option Nat) : Prop := ∀ t, d = some t → t < nt ∧ t < 512
theorem putF_ok {d : Option Nat} (hd : dstOk nt d) {F : NF} {G : Fr} (hF : RF F G) (v : AV) : ∃ G', putA nt G d v = some G' ∧ RF (wrV d v F) G' := by
  cases d with
  | none => exact ⟨G, rfl, hF⟩
  | some t =>
    obtain ⟨h1, h2⟩ := hd t rfl
    exact ⟨G.set t v, by rw [putA, if_pos h1], hF.set h2 v⟩
theorem finF_ok (hs : Sim call cf) {d : Option Nat} (hd : dstOk nt d) {F : NF} {G : Fr} (hF : RF F G) {R : R} {k : KN} {r : Ext × AV × AH} (h : finK call (wrOf d).run F R k = some r) :
    ∃ s N, (∀ L, N ≤ L → finA (cf L) nt G d R = some s) ∧ ∃ F', RF F' s.F ∧ k F' s.H = some r := by
  cases R with
  | val v H' =>
    change (wrOf d).run v F (fun F => k F H') = some r at h
    rw [wr_eq] at h
    obtain ⟨G', h1, h2⟩ := putF_ok hd hF v
    exact ⟨⟨G', H'⟩, 0, fun L _ => by simp only [finA, h1], _, h2, h⟩
  | skip H' =>
    change (wrOf d).run (.tup []) F (fun F => k F H') = some r at h
    rw [wr_eq] at h
    obtain ⟨G', h1, h2⟩ := putF_ok hd hF (.tup [])
    exact ⟨⟨G', H'⟩, 0, fun L _ => by simp only [finA, h1], _, h2, h⟩
  | call f args H' =>
    change memoK (call f args H' endK) (fun v H => (wrOf d).run v F fun F => k F H) = some r at h
    obtain ⟨v, H'', N, h1, h⟩ := memo_ok hs h
    rw [wr_eq] at h
    obtain ⟨G', h2, h3⟩ := putF_ok hd hF v
    exact ⟨⟨G', H''⟩, N, fun L hL => by simp only [finA, h1 L hL, h2], _, h3, h⟩
theorem compG_ok {o : Oper} {g : Option (Nat × Bool)} (h : compG ops o = some g) : (g = none ∧ ∀ G, wantedA ops G o = some true) ∨ ∃ t w, g = some (t, w) ∧ t < 512 ∧ ∀ G, wantedA ops G o = (match tmpA G t with
      | .bool b => some (b == w)
      | .tup _ => some false
      | _ => none) := by
  unfold compG at h
  split at h
  · rename_i hg
    cases h
    exact .inl ⟨rfl, fun G => by rw [wantedA, hg]⟩
  · rename_i j want hg
    split at h
    · rename_i p hp
      split at h
      · rename_i t ht
        cases hb : Nat.blt t 512 with
        | false => rw [hb] at h; cases h
        | true =>
          rw [hb] at h
          cases h
          exact .inr ⟨t, want, rfl, blt_lt hb, fun G => by rw [wantedA, hg]; simp only [hp, ht]; cases tmpA G t <;> rfl⟩
      · cases h
    · cases h
theorem semOp_none (E : Env) (d : Option Nat) (o : CO) (call : CallK) (F : NF) (H : AH) (k : KN) : (semOp ⟨none, d, o⟩).run ⟨E, call⟩ F H k = (semO (wrOf d).run o).run ⟨E, call⟩ F H k := rfl
theorem semOp_some (E : Env) (t : Nat) (w : Bool) (d : Option Nat) (o : CO) (call : CallK) (F : NF) (H : AH) (k : KN) : (semOp ⟨some (t, w), d, o⟩).run ⟨E, call⟩ F H k = (guardS (slotOf t).get (wrOf d).run (semO (wrOf d).run o).run w).run ⟨E, call⟩ F H k := rfl
theorem opF_ok (hs : Sim call cf) {o : Oper} {c : COp} (hc : compOp E.ty nt ops o = some c) {F : NF} {G : Fr} (hF : RF F G) {H : AH} {k : KN} {r : Ext × AV × AH} (h : (semOp c).run ⟨E, call⟩ F H k = some r) :
    ∃ s N, (∀ L, N ≤ L → exOne E (cf L) nt ops o G H = some s) ∧ ∃ F', RF F' s.F ∧ k F' s.H = some r := by
  unfold compOp at hc
  split at hc
  · cases hc
  · rename_i hd
    split at hc
    · rename_i g co hg hco
      cases hc
      have hd : dstOk nt o.dst := by
        intro t ht
        rw [ht] at hd
        simp only [Bool.and_eq_true] at hd
        exact ⟨blt_lt hd.1, blt_lt hd.2⟩
      have run : (∀ G, wantedA ops G o = some true → ∀ F, RF F G → (semO (wrOf o.dst).run co).run ⟨E, call⟩ F H k = some r → ∃ s N, (∀ L, N ≤ L → exOne E (cf L) nt ops o G H = some s) ∧ ∃ F', RF F' s.F ∧ k F' s.H = some r) := by
        intro G hw F hF h
        obtain ⟨R, h1, h⟩ := semO_ok hco hF h
        obtain ⟨s, N, h2, h3⟩ := finF_ok hs hd hF h
        exact ⟨s, N, fun L hL => by rw [exOne, hw]; simp only [h1]; exact h2 L hL, h3⟩
      have skip : (∀ G, wantedA ops G o = some false → ∀ F, RF F G → ((wrOf o.dst).run (.tup []) F fun F => k F H) = some r → ∃ s N, (∀ L, N ≤ L → exOne E (cf L) nt ops o G H = some s) ∧ ∃ F', RF F' s.F ∧ k F' s.H = some r) := by
        intro G hw F hF h
        rw [wr_eq] at h
        obtain ⟨G', h1, h2⟩ := putF_ok hd hF (.tup [])
        exact ⟨⟨G', H⟩, 0, fun L _ => by rw [exOne, hw]; simp only [h1], _, h2, h⟩
      rcases compG_ok hg with ⟨rfl, hw⟩ | ⟨t, w, rfl, ht, hw⟩
      · rw [semOp_none] at h
        exact run G (hw G) F hF h
      · rw [semOp_some] at h
        have hw := hw G
        rw [← hF t ht] at hw
        cases w
        · change (slotOf t).get F (fun v => v.ifBool (fun b => iteK b ((wrOf o.dst).run (.tup []) F fun F => k F H) ((semO (wrOf o.dst).run co).run ⟨E, call⟩ F H k)) (v.ifTup (fun _ => (wrOf o.dst).run (.tup []) F fun F => k F H) none)) = some r at h
          rw [slot_get] at h
          replace h := ifBool_ok h
          rcases h with ⟨b, hb, h⟩ | h
          · rw [hb] at hw
            replace h := iteK_ok h
            rcases h with ⟨rfl, h⟩ | ⟨rfl, h⟩
            · exact skip G hw F hF h
            · exact run G hw F hF h
          · replace h := ifTup_ok h
            rcases h with ⟨l, hl, h⟩ | h
            · rw [hl] at hw
              exact skip G hw F hF h
            · cases h
        · change (slotOf t).get F (fun v => v.ifBool (fun b => iteK b ((semO (wrOf o.dst).run co).run ⟨E, call⟩ F H k) ((wrOf o.dst).run (.tup []) F fun F => k F H)) (v.ifTup (fun _ => (wrOf o.dst).run (.tup []) F fun F => k F H) none)) = some r at h
          rw [slot_get] at h
          replace h := ifBool_ok h
          rcases h with ⟨b, hb, h⟩ | h
          · rw [hb] at hw
            replace h := iteK_ok h
            rcases h with ⟨rfl, h⟩ | ⟨rfl, h⟩
            · exact run G hw F hF h
            · exact skip G hw F hF h
          · replace h := ifTup_ok h
            rcases h with ⟨l, hl, h⟩ | h
            · rw [hl] at hw
              exact skip G hw F hF h
            · cases h
    · cases hc
theorem opsF_ok (hs : Sim call cf) : ∀ {l : List Oper} {cs : List COp}, compOps E.ty nt ops l = some cs → ∀ {F : NF} {G : Fr}, RF F G → ∀ {H : AH} {k : KN} {r : Ext × AV × AH}, (semOps cs).run ⟨E, call⟩ F H k = some r →
    ∃ s N, (∀ L, N ≤ L → exList E (cf L) nt ops l G H = some s) ∧ ∃ F', RF F' s.F ∧ k F' s.H = some r
  | [], cs, hc, F, G, hF, H, k, r, h => by
    cases hc
    exact ⟨⟨G, H⟩, 0, fun L _ => rfl, F, hF, h⟩
  | o :: l, cs, hc, F, G, hF, H, k, r, h => by
    simp only [compOps] at hc
    split at hc
    · rename_i c cs hc1 hc2
      cases hc
      change (semOp c).run ⟨E, call⟩ F H (fun F H => (semOps cs).run ⟨E, call⟩ F H k) = some r at h
      split at hc1
      · -- a quiet function is deferred
        unfold compD at hc1
        split at hc1
        · rename_i c1 k1 k2 k3
          split at hc1
          · rename_i f k4 k5
            simp only [Option.map_eq_some_iff] at hc1
            obtain ⟨x, hx, rfl⟩ := hc1
            change (rdOf x).run F (fun v => v.ifFunc (fun f a b => iteK (isOneL a b) (iteK (E.quiet f) ((semOps cs).run ⟨E, call⟩ F H k) none) none) none) = some r at h
            rw [rd_eq] at h
            replace h := ifFunc_ok h
            rcases h with ⟨g, first, cap, hv, h⟩ | h
            · obtain ⟨hone, ha⟩ := iteK_one h
              obtain ⟨hq, hb⟩ := iteK_one ha
              unfold isOneL at hone
              split at hone
              · have hfv := compOpd_ok hF hx
                rw [hv] at hfv
                obtain ⟨s', N', h2, h3⟩ := opsF_ok hs hc2 hF hb
                refine ⟨s', N', fun L hL => ?_, h3⟩
                have hone : exOne E (cf L) nt ops o G H = none := by
                  unfold exOne wantedA
                  rw [k2]
                  simp only [k1, exOp]
                have hdef : deferA E G o = true := by
                  unfold deferA
                  simp only [k1, k2, k3, k4, k5, hfv, hq]
                rw [exList, hone]
                simp only [hdef]
                exact h2 L hL
              · cases hone
            · cases h
          · cases hc1
        · cases hc1
      · obtain ⟨s, N, h1, F', hF', h⟩ := opF_ok hs hc1 hF h
        obtain ⟨s', N', h2, h3⟩ := opsF_ok hs hc2 hF' h
        exact ⟨s', max N N', fun L hL => by rw [exList, h1 L (by omega)]; exact h2 L (by omega), h3⟩
    · cases hc
theorem draw_list {E : Env} {cl : CallF} : ∀ {L : List (Nat × Nat)} {l : List Oper}, pickOps ops L = some l → (l.all fun o => !isDefer o.op) = true → ∀ {G : Fr} {H : AH} {s : St}, exList E cl nt ops l G H = some s → ∀ (past : List AH) (ini : Tr Blk), exDraw E cl nt ops L G H past ini = some s
  | [], l, hp, hnd, G, H, s, h, past, ini => by cases hp; exact h
  | (i, d) :: L, l, hp, hnd, G, H, s, h, past, ini => by
    simp only [pickOps] at hp
    split at hp
    · split at hp
      · rename_i o r ho hr
        cases hp
        simp only [exList] at h
        rw [List.all_cons, Bool.and_eq_true] at hnd
        split at h
        · rename_i s1 hs1
          simp only [exDraw, ho, hs1]
          split <;> exact draw_list hr hnd.2 h _ _
        · exfalso
          split at h
          · rename_i hd
            have h1 := hnd.1
            unfold deferA at hd
            split at hd
            · rename_i k1 _ _
              simp [isDefer, k1] at h1
            · cases hd
          · cases h
      · cases hp
    · cases hp

/-! ### Regions whose order is open -/
theorem gclo_ok {g : Option (Nat × Bool)} {o : Oper} (hg : compG ops o = some g) {F : NF} {G : Fr} (hF : RF F G) {k : Bool → Res} {r : Ext × AV × AH} (h : (gclo g).run F k = some r) : ∃ b, wantedA ops G o = some b ∧ k b = some r := by
  rcases compG_ok hg with ⟨rfl, hw⟩ | ⟨t, w, rfl, ht, hw⟩
  · exact ⟨true, hw G, h⟩
  · change (slotOf t).get F (fun v => v.ifBool (fun b => k (b == w)) (v.ifTup (fun _ => k false) none)) = some r at h
    rw [slot_get] at h
    have hw := hw G
    rw [← hF t ht] at hw
    replace h := ifBool_ok h
    rcases h with ⟨b, hb, h⟩ | h
    · rw [hb] at hw
      exact ⟨_, hw, h⟩
    · replace h := ifTup_ok h
      rcases h with ⟨l, hl, h⟩ | h
      · rw [hl] at hw
        exact ⟨_, hw, h⟩
      · cases h
theorem compOp_g {o : Oper} {c : COp} (h : compOp E.ty nt ops o = some c) : compG ops o = some c.g := by
  unfold compOp at h
  split at h
  · cases h
  · split at h
    · rename_i g co hg hco
      cases h
      exact hg
    · cases h
theorem drawF_ok (hs : Sim call cf) : ∀ {L : List (Nat × Nat)} {cs : List (COp × DK)}, compDraw E.ty nt ops L = some cs → ∀ {F : NF} {G : Fr}, RF F G → ∀ {H : AH} {past : List AH} {ini : Tr Blk} {k : KN} {r : Ext × AV × AH}, (semD cs).run ⟨E, call⟩ F H past ini k = some r →
    ∃ s N, (∀ M, N ≤ M → exDraw E (cf M) nt ops L G H past ini = some s) ∧ ∃ F', RF F' s.F ∧ k F' s.H = some r
  | [], cs, hc, F, G, hF, H, past, ini, k, r, h => by
    cases hc
    exact ⟨⟨G, H⟩, 0, fun L _ => rfl, F, hF, h⟩
  | (i, d) :: L, cs, hc, F, G, hF, H, past, ini, k, r, h => by
    simp only [compDraw] at hc
    split at hc
    · rename_i o ho
      split at hc
      · rename_i c q cs hc1 hq hc2
        cases hc
        change (semD1 (semOp c).run (semD cs).run c.g q).run ⟨E, call⟩ F H past ini k = some r at h
        have hg := compOp_g hc1
        unfold kindD at hq
        split at hq
        · rename_i hk
          cases hq
          change (semOp c).run ⟨E, call⟩ F H (fun F H => (semD cs).run ⟨E, call⟩ F H past ini k) = some r at h
          obtain ⟨s, N, h1, F', hF', h⟩ := opF_ok hs hc1 hF h
          obtain ⟨s', N', h2, h3⟩ := drawF_ok hs hc2 hF' h
          exact ⟨s', max N N', fun M hM => by simp only [exDraw, ho, h1 M (by omega), hk]; exact h2 M (by omega), h3⟩
        · rename_i hk
          cases hq
          change (semOp c).run ⟨E, call⟩ F H (fun F H => (semD cs).run ⟨E, call⟩ F H (H :: past) ini k) = some r at h
          obtain ⟨s, N, h1, F', hF', h⟩ := opF_ok hs hc1 hF h
          obtain ⟨s', N', h2, h3⟩ := drawF_ok hs hc2 hF' h
          exact ⟨s', max N N', fun M hM => by simp only [exDraw, ho, h1 M (by omega), hk]; exact h2 M (by omega), h3⟩
        · rename_i hk
          cases hq
          change (gclo c.g).run F (fun b => (semOp c).run ⟨E, call⟩ F H fun F H' => (semD cs).run ⟨E, call⟩ F H' past (iniK b H H' ini) k) = some r at h
          obtain ⟨b, hb, h⟩ := gclo_ok hg hF h
          obtain ⟨s, N, h1, F', hF', h⟩ := opF_ok hs hc1 hF h
          obtain ⟨s', N', h2, h3⟩ := drawF_ok hs hc2 hF' h
          refine ⟨s', max N N', fun M hM => ?_, h3⟩
          have h2 := h2 M (by omega)
          simp only [exDraw, ho, h1 M (by omega), hk, hb]
          cases b with
          | true => exact h2
          | false => exact h2
        · rename_i t a hk
          split at hq
          · cases hq
            change (semOp c).run ⟨E, call⟩ F H (fun F H => (semD cs).run ⟨E, call⟩ F H past ini k) = some r at h
            obtain ⟨s, N, h1, F', hF', h⟩ := opF_ok hs hc1 hF h
            obtain ⟨s', N', h2, h3⟩ := drawF_ok hs hc2 hF' h
            exact ⟨s', max N N', fun M hM => by simp only [exDraw, ho, h1 M (by omega), hk]; exact h2 M (by omega), h3⟩
          · rename_i hd0
            simp only [Option.map_eq_some_iff] at hq
            obtain ⟨a', ha, rfl⟩ := hq
            change (gclo c.g).run F (fun b => (rdOf a').run F fun p => iteK (sameB b E t p H d past ini) ((semOp c).run ⟨E, call⟩ F H fun F H => (semD cs).run ⟨E, call⟩ F H past ini k) none) = some r at h
            obtain ⟨b, hb, h⟩ := gclo_ok hg hF h
            rw [rd_eq] at h
            obtain ⟨hsame, h⟩ := iteK_one h
            obtain ⟨s, N, h1, F', hF', h⟩ := opF_ok hs hc1 hF h
            obtain ⟨s', N', h2, h3⟩ := drawF_ok hs hc2 hF' h
            refine ⟨s', max N N', fun M hM => ?_, h3⟩
            have h2 := h2 M (by omega)
            have ha := compOpd_ok hF ha
            simp only [exDraw, ho, h1 M (by omega), hk]
            cases d with
            | zero => exact absurd rfl hd0
            | succ d =>
              simp only [hb, ha]
              unfold sameB at hsame
              cases b with
              | false => exact h2
              | true =>
                simp only at hsame ⊢
                cases hl : loadT E t (opdV F a') H with
                | none => rw [hl] at hsame; cases hsame
                | some v =>
                  rw [hl] at hsame
                  simp only at hsame ⊢
                  rw [hsame]
                  exact h2
      · cases hc
    · cases hc
end
end Go.Proofs.YteopodohghnokaaGreatDoor.Ex
end
section
namespace Go.Proofs.YteopodohghnokaaGreatDoor.Ex
open Go
set_option linter.unusedVariables false
set_option linter.unusedSimpArgs false

/-- What a call gives, others give too, given room. -/
def Weak (c1 : CallF) (cf : Nat → CallF) : Prop := ∀ (f : FuncId) (args : List AV) (H : AH) (r : AV × AH), c1 f args H = some r → ∃ N, ∀ L, N ≤ L → cf L f args H = some r
theorem direct_weak {call : CallK} {cf : Nat → CallF} (hs : Sim call cf) : Weak (directF call) cf := fun f args H r h => by
  unfold directF at h
  split at h
  · rename_i e v H' he
    cases h
    obtain ⟨v', H'', N, h1, h2⟩ := hs _ _ _ _ _ he
    cases h2
    exact ⟨N, h1⟩
  · cases h

end Go.Proofs.YteopodohghnokaaGreatDoor.Ex
end
section
namespace Go.Proofs.YteopodohghnokaaGreatDoor.Ex
open Go
set_option linter.unusedVariables false
set_option linter.unusedSimpArgs false

section
variable {E : Env} {nt : Nat} {ops : Array Oper} {c1 : CallF} {cf : Nat → CallF}
theorem one_mono (hw : Weak c1 cf) {o : Oper} {F : Fr} {H : AH} {s : St} (h : exOne E c1 nt ops o F H = some s) : ∃ N, ∀ L, N ≤ L → exOne E (cf L) nt ops o F H = some s := by
  unfold exOne at h ⊢
  cases hq : wantedA ops F o with
  | none => rw [hq] at h; cases h
  | some q =>
    rw [hq] at h
    cases q with
    | false => exact ⟨0, fun L _ => h⟩
    | true =>
      simp only at h ⊢
      cases hR : exOp E F o.op H with
      | none => rw [hR] at h; cases h
      | some R =>
        rw [hR] at h
        simp only at h ⊢
        cases R with
        | val v H' => exact ⟨0, fun L _ => h⟩
        | skip H' => exact ⟨0, fun L _ => h⟩
        | call f args H' =>
          simp only [finA] at h ⊢
          cases hc : c1 f args H' with
          | none => rw [hc] at h; cases h
          | some p =>
            obtain ⟨N, hN⟩ := hw _ _ _ _ hc
            exact ⟨N, fun L hL => by rw [hN L hL]; rw [hc] at h; exact h⟩
theorem draw_mono (hw : Weak c1 cf) : ∀ {l : List (Nat × Nat)} {F : Fr} {H : AH} {past : List AH} {ini : Tr Blk} {s : St}, exDraw E c1 nt ops l F H past ini = some s → ∃ N, ∀ L, N ≤ L → exDraw E (cf L) nt ops l F H past ini = some s
  | [], F, H, past, ini, s, h => ⟨0, fun L _ => h⟩
  | (i, d) :: l, F, H, past, ini, s, h => by
    simp only [exDraw] at h
    split at h
    · cases h
    · rename_i o ho
      split at h
      · cases h
      · rename_i s1 hs1
        obtain ⟨N1, h1⟩ := one_mono hw hs1
        split at h
        · rename_i hk
          obtain ⟨N, h4⟩ := draw_mono hw h
          exact ⟨max N1 N, fun L hL => by simp only [exDraw, ho, h1 L (by omega), hk]; exact h4 L (by omega)⟩
        · rename_i hk
          obtain ⟨N, h4⟩ := draw_mono hw h
          exact ⟨max N1 N, fun L hL => by simp only [exDraw, ho, h1 L (by omega), hk]; exact h4 L (by omega)⟩
        · rename_i hk
          obtain ⟨N, h4⟩ := draw_mono hw h
          exact ⟨max N1 N, fun L hL => by simp only [exDraw, ho, h1 L (by omega), hk]; exact h4 L (by omega)⟩
        · rename_i t a hk
          cases d with
          | zero =>
            obtain ⟨N, h4⟩ := draw_mono hw h
            exact ⟨max N1 N, fun L hL => by simp only [exDraw, ho, h1 L (by omega), hk]; exact h4 L (by omega)⟩
          | succ d =>
            simp only at h
            split at h
            · rename_i hb
              obtain ⟨N, h4⟩ := draw_mono hw h
              refine ⟨max N1 N, fun L hL => ?_⟩
              simp only [exDraw, ho, h1 L (by omega), hk]
              rw [hb]
              exact h4 L (by omega)
            · cases h
theorem tail_mono (hw : Weak c1 cf) {p q r : Oper} {F : Fr} {H : AH} {s : St} (h : exTail E c1 nt ops p q r F H = some s) : ∃ N, ∀ L, N ≤ L → exTail E (cf L) nt ops p q r F H = some s := by
  unfold exTail at h
  split at h
  · cases h
  · rename_i s1 h1
    obtain ⟨N1, g1⟩ := one_mono hw h1
    split at h
    · rename_i b c hb hc
      split at h
      · cases h
      · rename_i hbc
        split at h
        · cases h
        · rename_i s2 h2
          obtain ⟨N2, g2⟩ := one_mono hw h2
          obtain ⟨N3, g3⟩ := one_mono hw h
          refine ⟨max N1 (max N2 N3), fun L hL => ?_⟩
          unfold exTail
          rw [g1 L (by omega)]
          simp only [hb, hc, hbc]
          rw [g2 L (by omega)]
          exact g3 L (by omega)
    · cases h
theorem reg_mono (hw : Weak c1 cf) {F : Fr} {H : AH} {s : St} (h : exReg E c1 nt ops true F H = some s) : ∃ N, ∀ L, N ≤ L → exReg E (cf L) nt ops true F H = some s := by
  simp only [exReg] at h ⊢
  split at h
  · exact draw_mono hw h
  · split at h
    · split at h
      · rename_i s1 h1
        obtain ⟨N1, g1⟩ := draw_mono hw h1
        obtain ⟨N2, g2⟩ := tail_mono hw h
        exact ⟨max N1 N2, fun L hL => by simp only [g1 L (by omega)]; exact g2 L (by omega)⟩
      · cases h
    · cases h

def WeakR (r1 : RoundF) (rf : Nat → Nat → RoundF) : Prop := ∀ (args : List AV) (H : AH) (r : Ext × AH), r1 args H = some r → ∃ N, ∀ L n, N ≤ L → N ≤ n → rf L n args H = some r
variable {r1 : RoundF} {rf : Nat → Nat → RoundF} {y : Nat}
/-- What is a round's call is none of the runner's. -/
theorem yield_none {o : Oper} {s s' : IS} {rd : RoundF} (h : yieldX rd nt y ops o s = some s') (cl : CallF) : exOne E cl nt ops o s.F s.H = none := by
  unfold yieldX at h
  split at h
  · rename_i c hw hop hp
    split at h
    · rename_i f hf
      split at h
      · rename_i z hz
        unfold exOne
        rw [hw]
        simp only [hop, exOp, callX, hf, hz]
        cases opsA s.F c.args.toList <;> rfl
      · cases h
    · cases h
  · cases h
theorem yield_mono (hr : WeakR r1 rf) {o : Oper} {s s' : IS} (h : yieldX r1 nt y ops o s = some s') : ∃ N, ∀ L n, N ≤ L → N ≤ n → yieldX (rf L n) nt y ops o s = some s' := by
  unfold yieldX at h ⊢
  split at h
  · rename_i c hw hop hp
    split at h
    · rename_i f hf
      split at h
      · rename_i z hz
        split at h
        · rename_i hzy
          simp only [if_pos hzy]
          split at h
          · rename_i xs hxs

            split at h
            · rename_i e H' hround
              obtain ⟨N, hN⟩ := hr _ _ _ hround
              exact ⟨N, fun L n h1 h2 => by rw [hN L n h1 h2]; exact h⟩
            · cases h
          · cases h
        · cases h
      · cases h
    · cases h
  · cases h
theorem iOne_mono (hw : Weak c1 cf) (hr : WeakR r1 rf) {o : Oper} {s s' : IS} (h : exIOne E c1 r1 nt y ops o s = some s') : ∃ N, ∀ L n, N ≤ L → N ≤ n → exIOne E (cf L) (rf L n) nt y ops o s = some s' := by
  unfold exIOne at h ⊢
  split at h
  · rename_i s1 hs1
    obtain ⟨N, hN⟩ := one_mono hw hs1
    exact ⟨N, fun L n h1 _ => by rw [hN L h1]; exact h⟩
  · obtain ⟨N, hN⟩ := yield_mono hr h
    exact ⟨N, fun L n h1 h2 => by rw [yield_none h (cf L)]; exact hN L n h1 h2⟩
theorem iList_mono (hw : Weak c1 cf) (hr : WeakR r1 rf) : ∀ {l : List Oper} {s s' : IS}, exIList E c1 r1 nt y ops l s = some s' → ∃ N, ∀ L n, N ≤ L → N ≤ n → exIList E (cf L) (rf L n) nt y ops l s = some s'
  | [], s, s', h => ⟨0, fun L n _ _ => h⟩
  | o :: l, s, s', h => by
    simp only [exIList] at h
    split at h
    · rename_i s1 hs1
      obtain ⟨N1, h1⟩ := iOne_mono hw hr hs1
      obtain ⟨N, h2⟩ := iList_mono hw hr h
      exact ⟨max N1 N, fun L n h3 h4 => by simp only [exIList, h1 L n (by omega) (by omega)]; exact h2 L n (by omega) (by omega)⟩
    · cases h
theorem iC_mono (hw : Weak c1 cf) (hr : WeakR r1 rf) : ∀ (m : Nat) {c : Code} {s : IS} {q : Ext × IS}, exIC E c1 r1 nt y m c s = some q → ∃ N, ∀ L n m', N ≤ L → N ≤ n → N ≤ m' → exIC E (cf L) (rf L n) nt y m' c s = some q
  | 0, c, s, q, h => by simp [exIC] at h
  | m + 1, c, s, q, h => by
    have suc : ∀ {P : Nat → Nat → Nat → Prop} {N : Nat}, (∀ L n m', N ≤ L → N ≤ n → N ≤ m' → P L n (m' + 1)) → ∃ N, ∀ L n m', N ≤ L → N ≤ n → N ≤ m' → P L n m' := fun {P N} hP => ⟨N + 1, fun L n m' h1 h2 h3 => by
      obtain ⟨m'', rfl⟩ : ∃ k, m' = k + 1 := ⟨m' - 1, by omega⟩
      exact hP L n m'' (by omega) (by omega) (by omega)⟩
    cases c with
    | skip => exact suc (N := 0) fun L n m' _ _ _ => h
    | region id ops draw =>
      simp only [exIC] at h
      cases draw with
      | true =>
        simp only at h
        split at h
        · rename_i s1 hs1
          obtain ⟨N, h1⟩ := reg_mono hw hs1
          exact suc (N := N) fun L n m' h2 _ _ => by simp only [exIC, h1 L h2]; exact h
        · cases h
      | false =>
        simp only at h
        split at h
        · rename_i s1 hs1
          obtain ⟨N, h1⟩ := iList_mono hw hr hs1
          exact suc (N := N) fun L n m' h2 h3 _ => by simp only [exIC, h1 L n h2 h3]; exact h
        · cases h
    | seq a b =>
      simp only [exIC] at h
      split at h
      · rename_i s1 hs1
        obtain ⟨N1, h1⟩ := iC_mono hw hr m hs1
        obtain ⟨N, h2⟩ := iC_mono hw hr m h
        exact suc (N := max N1 N) fun L n m' h3 h4 h5 => by simp only [exIC, h1 L n m' (by omega) (by omega) (by omega)]; exact h2 L n m' (by omega) (by omega) (by omega)
      · rename_i hne
        obtain ⟨N1, h1⟩ := iC_mono hw hr m h
        refine suc (N := N1) fun L n m' h3 h4 h5 => ?_
        simp only [exIC, h1 L n m' h3 h4 h5]
        split
        · rename_i s1 hs1
          cases hs1
          exact absurd h (hne _)
        · rfl
    | cond b x z =>
      simp only [exIC] at h
      split at h
      · rename_i t ht
        cases t with
        | true =>
          obtain ⟨N, h1⟩ := iC_mono hw hr m h
          exact suc (N := N) fun L n m' h3 h4 h5 => by simp only [exIC, ht]; exact h1 L n m' h3 h4 h5
        | false =>
          obtain ⟨N, h1⟩ := iC_mono hw hr m h
          exact suc (N := N) fun L n m' h3 h4 h5 => by simp only [exIC, ht]; exact h1 L n m' h3 h4 h5
      · cases h
    | block id x =>
      simp only [exIC] at h
      split at h
      · rename_i j s1 hs1
        obtain ⟨N1, h1⟩ := iC_mono hw hr m hs1
        exact suc (N := N1) fun L n m' h3 h4 h5 => by simp only [exIC, h1 L n m' h3 h4 h5]; exact h
      · rename_i hne
        obtain ⟨N1, h1⟩ := iC_mono hw hr m h
        refine suc (N := N1) fun L n m' h3 h4 h5 => ?_
        simp only [exIC, h1 L n m' h3 h4 h5]
        split
        · rename_i j s1 hs1
          cases hs1
          exact absurd h (hne _ _)
        · rfl
    | loop x =>
      simp only [exIC] at h
      split at h
      · rename_i s1 hs1
        obtain ⟨N1, h1⟩ := iC_mono hw hr m hs1
        obtain ⟨N, h2⟩ := iC_mono hw hr m h
        exact suc (N := max N1 N) fun L n m' h3 h4 h5 => by simp only [exIC, h1 L n m' (by omega) (by omega) (by omega)]; exact h2 L n m' (by omega) (by omega) (by omega)
      · rename_i hne
        obtain ⟨N1, h1⟩ := iC_mono hw hr m h
        refine suc (N := N1) fun L n m' h3 h4 h5 => ?_
        simp only [exIC, h1 L n m' h3 h4 h5]
        split
        · rename_i s1 hs1
          cases hs1
          exact absurd h (hne _)
        · rfl
    | exit id => exact suc (N := 0) fun L n m' _ _ _ => h
    | scope x =>
      simp only [exIC] at h
      obtain ⟨N, h1⟩ := iC_mono hw hr m h
      exact suc (N := N) fun L n m' h3 h4 h5 => by simp only [exIC]; exact h1 L n m' h3 h4 h5
    | label l => exact suc (N := 0) fun L n m' _ _ _ => h
    | ret => exact suc (N := 0) fun L n m' _ _ _ => h
    | rangeFunc g ps a b => simp [exIC] at h
    | goto l => simp [exIC] at h
    | refuse w => simp [exIC] at h
theorem iter_mono (hw : Weak c1 cf) (hr : WeakR r1 rf) {m : Nat} {gf : FuncId} {cap : List AV} {H : AH} {q : Ext × AH} (h : iterA E c1 r1 m gf cap H = some q) : ∃ N, ∀ L n, N ≤ L → N ≤ n → iterA E (cf L) (rf L n) n gf cap H = some q := by
  unfold iterA at h ⊢
  split at h
  · cases h
  · rename_i i hi
    split at h
    · cases h
    · rename_i hn
      simp only [if_neg hn]
      split at h
      · cases h
      · rename_i e s hne hs
        obtain ⟨N, h1⟩ := iC_mono hw hr m hs
        refine ⟨N, fun L n h2 h3 => ?_⟩
        rw [h1 L n n h2 h3 h3]
        cases e with
        | exit j => exact (hne _ rfl).elim
        | normal => exact h
        | ret => exact h
      · cases h
end
end Go.Proofs.YteopodohghnokaaGreatDoor.Ex
end
section
namespace Go.Proofs.YteopodohghnokaaGreatDoor.Ex
open Go
set_option linter.unusedVariables false
set_option linter.unusedSimpArgs false

section
variable {E : Env} {nt : Nat} {call : CallK} {cf : Nat → CallF}
theorem puts_ok : ∀ {ps : List Nat} {args : List AV} {F : NF} {G : Fr} {k : NF → Res} {r : Ext × AV × AH}, (∀ d ∈ ps, d < nt ∧ d < 512) → RF F G → putsK ps args F k = some r → ∃ G' F', putAllA nt G ps args = some G' ∧ RF F' G' ∧ k F' = some r
  | [], [], F, G, k, r, hd, hF, h => ⟨G, F, rfl, hF, h⟩
  | [], v :: vs, F, G, k, r, hd, hF, h => by cases h
  | p :: ps, [], F, G, k, r, hd, hF, h => by cases h
  | p :: ps, v :: vs, F, G, k, r, hd, hF, h => by
    change (slotOf p).set v F (fun F => putsK ps vs F k) = some r at h
    rw [slot_set] at h
    obtain ⟨h1, h2⟩ := hd p (List.mem_cons_self ..)
    obtain ⟨G', F', h3, h4⟩ := puts_ok (fun d hd' => hd d (List.mem_cons_of_mem _ hd')) (hF.set h2 v) h
    exact ⟨G', F', by rw [putAllA, if_pos h1]; exact h3, h4⟩
/-- How code's end goes on. -/
def goOn (e : Ext) (kn : KN) (ke : KE) (kr : KN) : KN := match e with
  | .normal => kn
  | .exit j => ke j
  | .ret => kr
theorem suc_fuel {P : Nat → Nat → Prop} {N : Nat} (hP : ∀ L n, N ≤ L → N ≤ n → P L (n + 1)) : ∃ N, ∀ L n, N ≤ L → N ≤ n → P L n := ⟨N + 1, fun L n h1 h2 => by
  obtain ⟨m, rfl⟩ : ∃ k, n = k + 1 := ⟨n - 1, by omega⟩
  exact hP L m (by omega) (by omega)⟩
theorem pre_ok (hs : Sim call cf) {ops : Array Oper} {pl : List (Nat × Nat)} {cc : CC} (hc : compPre E.ty nt ops pl = some cc) {L : Nat} {F : NF} {G : Fr} (hF : RF F G) {H : AH} {kn : KN} {ke : KE} {kr : KN} {r : Ext × AV × AH} (h : (semC nt cc).run ⟨E, call⟩ L F H kn ke kr = some r) :
    ∃ s N, (∀ L, N ≤ L → exDraw E (cf L) nt ops pl G H [H] .nil = some s) ∧ ∃ F', RF F' s.F ∧ kn F' s.H = some r := by
  unfold compPre at hc
  split at hc
  · rename_i l hl
    cases hb : (l.all fun o => !isDefer o.op) with
    | false => rw [hb] at hc; cases hc
    | true =>
      rw [hb] at hc
      simp only [cond_true, Option.map_eq_some_iff] at hc
      obtain ⟨cs, h1, h2⟩ := hc
      subst h2
      obtain ⟨s, N, h3, h4⟩ := opsF_ok hs h1 hF h
      exact ⟨s, N, fun L hL => draw_list hl hb (h3 L hL) _ _, h4⟩
  · simp only [Option.map_eq_some_iff] at hc
    obtain ⟨cs, h1, h2⟩ := hc
    subst h2
    change (semD cs).run ⟨E, call⟩ F H [H] .nil kn = some r at h
    exact drawF_ok hs h1 hF h
theorem addrC_ok {F : NF} {G : Fr} (hF : RF F G) {o : Op} {x : COpd} (h : addrC o = some x) {b i : Nat} (hx : opdV F x = .ptr b i) : blockOf G o = some b := by
  unfold addrC at h
  split at h
  · simp only [blockOf, compOpd_ok hF h, hx]
  · cases h
theorem tailF_ok (hs : Sim call cf) {ops : Array Oper} {p q t : Oper} {cc : CC} (hc : compTail E.ty nt ops p q t = some cc) {L : Nat} {F : NF} {G : Fr} (hF : RF F G) {H : AH} {kn : KN} {ke : KE} {kr : KN} {r : Ext × AV × AH} (h : (semC nt cc).run ⟨E, call⟩ L F H kn ke kr = some r) :
    ∃ s N, (∀ L, N ≤ L → exTail E (cf L) nt ops p q t G H = some s) ∧ ∃ F', RF F' s.F ∧ kn F' s.H = some r := by
  unfold compTail at hc
  split at hc
  · rename_i a b c x y ha hb hcc hx hy
    cases hc
    change (semOp a).run ⟨E, call⟩ F H (fun F1 H1 => (rdOf x).run F1 fun px => (rdOf y).run F1 fun py => px.ifPtr (fun i _ => py.ifPtr (fun j _ => iteK (Nat.beq i j) none ((semOp b).run ⟨E, call⟩ F1 H1 fun F2 H2 => (semOp c).run ⟨E, call⟩ F2 H2 kn)) none) none) = some r at h
    obtain ⟨s1, N1, h1, F1, hF1, h⟩ := opF_ok hs ha hF h
    rw [rd_eq, rd_eq] at h
    replace h := ifPtr_ok h
    rcases h with ⟨i, _, hpx, h⟩ | h
    · replace h := ifPtr_ok h
      rcases h with ⟨j, _, hpy, h⟩ | h
      · replace h := iteK_ok h
        rcases h with ⟨_, h⟩ | ⟨hij, h⟩
        · cases h
        · obtain ⟨s2, N2, h2, F2, hF2, h⟩ := opF_ok hs hb hF1 h
          obtain ⟨s3, N3, h3, F3, hF3, h⟩ := opF_ok hs hcc hF2 h
          refine ⟨s3, max N1 (max N2 N3), fun L hL => ?_, F3, hF3, h⟩
          unfold exTail
          rw [h1 L (by omega)]
          simp only [addrC_ok hF1 hx hpx, addrC_ok hF1 hy hpy, hij, h2 L (by omega), h3 L (by omega)]
      · cases h
    · cases h
  · cases hc
theorem code_ok (hs : Sim call cf) : ∀ (c : Code) {cc : CC}, compC E.ty nt c = some cc → ∀ {L : Nat} {F : NF} {G : Fr}, RF F G → ∀ {H : AH} {kn : KN} {ke : KE} {kr : KN} {r : Ext × AV × AH}, (semC nt cc).run ⟨E, call⟩ L F H kn ke kr = some r →
    ∃ e s, (∃ N, ∀ L n, N ≤ L → N ≤ n → exC E (cf L) nt n c G H = some (e, s)) ∧ ∃ F', RF F' s.F ∧ goOn e kn ke kr F' s.H = some r
  | .skip, cc, hc, L, F, G, hF, H, kn, ke, kr, r, h => by
    cases hc
    exact ⟨.normal, ⟨G, H⟩, suc_fuel (N := 0) fun L n _ _ => rfl, F, hF, h⟩
  | .region id ops draw, cc, hc, L, F, G, hF, H, kn, ke, kr, r, h => by
    have list : ∀ {l cs}, compOps E.ty nt ops l = some cs → cc = .reg cs → ∃ s N, (∀ L, N ≤ L → exList E (cf L) nt ops l G H = some s) ∧ ∃ F', RF F' s.F ∧ kn F' s.H = some r := by
      intro l cs h1 h2
      subst h2
      exact opsF_ok hs h1 hF h
    cases draw with
    | false =>
      simp only [compC, Option.map_eq_some_iff] at hc
      obtain ⟨cs, h1, h2⟩ := hc
      obtain ⟨s, N, h3, h4⟩ := list h1 h2.symm
      exact ⟨.normal, s, suc_fuel (N := N) fun L n h5 _ => by simp only [exC, exReg, h3 L h5], h4⟩
    | true =>
      simp only [compC] at hc
      have hc' := hc
      unfold compRegD at hc'
      split at hc'
      · rename_i pl hpl
        obtain ⟨s, N, h3, h4⟩ := pre_ok hs hc' hF h
        exact ⟨.normal, s, suc_fuel (N := N) fun L n h5 _ => by simp only [exC, exReg, hpl, h3 L h5], h4⟩
      · rename_i hpl
        split at hc'
        · rename_i pl p q r' hcut
          split at hc'
          · rename_i ca ct ha ht
            cases hc'
            change (semC nt ca).run ⟨E, call⟩ L F H (fun F H => (semC nt ct).run ⟨E, call⟩ L F H kn ke kr) ke kr = some r at h
            obtain ⟨s, N, h3, F', hF', h⟩ := pre_ok hs ha hF h
            obtain ⟨s', N', h4, h5⟩ := tailF_ok hs ht hF' h
            exact ⟨.normal, s', suc_fuel (N := max N N') fun L n h6 _ => by simp only [exC, exReg, hpl, hcut, h3 L (by omega), h4 L (by omega)], h5⟩
          · cases hc'
        · cases hc'
  | .seq a b, cc, hc, L, F, G, hF, H, kn, ke, kr, r, h => by
    simp only [compC] at hc
    split at hc
    · rename_i ca cb ha hb
      cases hc
      change (semC nt ca).run ⟨E, call⟩ L F H (fun F H => (semC nt cb).run ⟨E, call⟩ L F H kn ke kr) ke kr = some r at h
      obtain ⟨e, s, ⟨N, h1⟩, F', hF', h⟩ := code_ok hs a ha hF h
      cases e with
      | normal =>
        obtain ⟨e', s', ⟨N', h2⟩, h3⟩ := code_ok hs b hb hF' h
        exact ⟨e', s', suc_fuel (N := max N N') fun L n h4 h5 => by simp only [exC, h1 L n (by omega) (by omega)]; exact h2 L n (by omega) (by omega), h3⟩
      | exit j => exact ⟨.exit j, s, suc_fuel (N := N) fun L n h4 h5 => by simp only [exC, h1 L n h4 h5], F', hF', h⟩
      | ret => exact ⟨.ret, s, suc_fuel (N := N) fun L n h4 h5 => by simp only [exC, h1 L n h4 h5], F', hF', h⟩
    · cases hc
  | .cond b x y, cc, hc, L, F, G, hF, H, kn, ke, kr, r, h => by
    simp only [compC] at hc
    split at hc
    · rename_i b' cx cy hb hx hy
      cases hc
      change (rdOf b').run F (fun v => v.ifBool (fun t => iteK t ((semC nt cx).run ⟨E, call⟩ L F H kn ke kr) ((semC nt cy).run ⟨E, call⟩ L F H kn ke kr)) none) = some r at h
      rw [rd_eq] at h
      replace h := ifBool_ok h
      rcases h with ⟨t, ht, h⟩ | h
      · have hb := compOpd_ok hF hb
        rw [ht] at hb
        replace h := iteK_ok h
        rcases h with ⟨rfl, h⟩ | ⟨rfl, h⟩
        · obtain ⟨e, s, ⟨N, h1⟩, h2⟩ := code_ok hs x hx hF h
          exact ⟨e, s, suc_fuel (N := N) fun L n h4 h5 => by simp only [exC, hb]; exact h1 L n h4 h5, h2⟩
        · obtain ⟨e, s, ⟨N, h1⟩, h2⟩ := code_ok hs y hy hF h
          exact ⟨e, s, suc_fuel (N := N) fun L n h4 h5 => by simp only [exC, hb]; exact h1 L n h4 h5, h2⟩
      · cases h
    · cases hc
  | .block id x, cc, hc, L, F, G, hF, H, kn, ke, kr, r, h => by
    simp only [compC, Option.map_eq_some_iff] at hc
    obtain ⟨cx, hx, rfl⟩ := hc
    change (semC nt cx).run ⟨E, call⟩ L F H kn (fun j F H => iteK (Nat.beq j id) (kn F H) (ke j F H)) kr = some r at h
    obtain ⟨e, s, ⟨N, h1⟩, F', hF', h⟩ := code_ok hs x hx hF h
    cases e with
    | normal => exact ⟨.normal, s, suc_fuel (N := N) fun L n h4 h5 => by simp only [exC, h1 L n h4 h5], F', hF', h⟩
    | ret => exact ⟨.ret, s, suc_fuel (N := N) fun L n h4 h5 => by simp only [exC, h1 L n h4 h5], F', hF', h⟩
    | exit j =>
      replace h := iteK_ok h
      rcases h with ⟨hj, h⟩ | ⟨hj, h⟩
      · exact ⟨.normal, s, suc_fuel (N := N) fun L n h4 h5 => by simp only [exC, h1 L n h4 h5]; rw [if_pos (Nat.eq_of_beq_eq_true hj)], F', hF', h⟩
      · exact ⟨.exit j, s, suc_fuel (N := N) fun L n h4 h5 => by simp only [exC, h1 L n h4 h5]; rw [if_neg (Nat.ne_of_beq_eq_false hj)], F', hF', h⟩
  | .loop x, cc, hc, L, F, G, hF, H, kn, ke, kr, r, h => by
    simp only [compC, Option.map_eq_some_iff] at hc
    obtain ⟨cx, hx, rfl⟩ := hc
    let go : Nat → NF → AH → Res := fun m => @Nat.rec (fun _ => NF → AH → Res) (fun _ _ => none) (fun _ ih F H => (semC nt cx).run ⟨E, call⟩ L F H ih ke kr) m
    have key : ∀ (m : Nat) {F : NF} {G : Fr}, RF F G → ∀ {H : AH}, go m F H = some r → ∃ e s, (∃ N, ∀ L n, N ≤ L → N ≤ n → exC E (cf L) nt n (.loop x) G H = some (e, s)) ∧ ∃ F', RF F' s.F ∧ goOn e kn ke kr F' s.H = some r := by
      intro m
      induction m with
      | zero => intro F G hF H h; cases h
      | succ m ih =>
        intro F G hF H h
        change (semC nt cx).run ⟨E, call⟩ L F H (go m) ke kr = some r at h
        obtain ⟨e, s, ⟨N, h1⟩, F', hF', h⟩ := code_ok hs x hx hF h
        cases e with
        | normal =>
          obtain ⟨e', s', ⟨N', h2⟩, h3⟩ := ih hF' h
          exact ⟨e', s', suc_fuel (N := max N N') fun L n h4 h5 => by simp only [exC, h1 L n (by omega) (by omega)]; exact h2 L n (by omega) (by omega), h3⟩
        | exit j => exact ⟨.exit j, s, suc_fuel (N := N) fun L n h4 h5 => by simp only [exC, h1 L n h4 h5], F', hF', h⟩
        | ret => exact ⟨.ret, s, suc_fuel (N := N) fun L n h4 h5 => by simp only [exC, h1 L n h4 h5], F', hF', h⟩
    exact key L hF h
  | .rangeFunc g ps a b, cc, hc, L, F, G, hF, H, kn, ke, kr, r, h => by
    simp only [compC] at hc
    cases hb : (noRange a && noRange b && ps.toList.all (fun d => Nat.blt d 512 && Nat.blt d nt)) with
    | false => rw [hb] at hc; cases hc
    | true =>
      rw [hb] at hc
      simp only [cond_true] at hc
      rw [Bool.and_eq_true] at hb
      obtain ⟨hb1, hb2⟩ := hb
      split at hc
      · rename_i g' ca cb hg ha hbb
        cases hc
        change (rdOf g').run F (fun v => v.ifFunc (fun gf first cap => @List.rec AV (fun _ => Res) (outK (iterA E (directF call) (roundK (semC nt ca).run (semC nt cb).run ps.toList ⟨E, call⟩ L F) L gf cap H) F kn ke kr) (fun _ _ _ => none) first) none) = some r at h
        rw [rd_eq] at h
        replace h := ifFunc_ok h
        rcases h with ⟨gf, first, cap, hv, h⟩ | h
        · cases first with
          | cons x l => cases h
          | nil =>
            change (optK (iterA E (directF call) (roundK (semC nt ca).run (semC nt cb).run ps.toList ⟨E, call⟩ L F) L gf cap H) fun p => @Prod.rec Ext AH (fun _ => Res) (fun e H => @Ext.rec (fun _ => Res) (kn F H) (fun j => ke j F H) (kr F H) e) p) = some r at h
            obtain ⟨⟨e, H'⟩, hi, h⟩ := optK_ok h
            have hg := compOpd_ok hF hg
            rw [hv] at hg
            have hps : ∀ d ∈ ps.toList, d < nt ∧ d < 512 := fun d hd => by
              have := List.all_eq_true.1 hb2 d hd
              rw [Bool.and_eq_true] at this
              exact ⟨blt_lt this.2, blt_lt this.1⟩
            have hround : WeakR (roundK (semC nt ca).run (semC nt cb).run ps.toList ⟨E, call⟩ L F) (fun L n => roundA (exC E (cf L) nt n) nt G ps.toList a b) := by
              intro args H1 q hq
              unfold roundK at hq
              split at hq
              · rename_i e1 v1 H2 hk
                cases hq
                obtain ⟨G1, F1, h1, hF1, hk⟩ := puts_ok hps hF hk
                obtain ⟨e2, s2, ⟨N2, h2⟩, F2, hF2, hk⟩ := code_ok hs a ha hF1 hk
                cases e2 with
                | exit j => cases hk
                | ret => cases hk
                | normal =>
                  obtain ⟨e3, s3, ⟨N3, h3⟩, F3, hF3, hk⟩ := code_ok hs b hbb hF2 hk
                  refine ⟨max N2 N3, fun L n h4 h5 => ?_⟩
                  simp only [roundA, h1, h2 L n (by omega) (by omega), h3 L n (by omega) (by omega)]
                  cases e3 <;> cases hk <;> rfl
              · cases hq
            obtain ⟨N, hN⟩ := iter_mono (direct_weak hs) hround hi
            have hex : ∃ N, ∀ L n, N ≤ L → N ≤ n → exC E (cf L) nt n (.rangeFunc g ps a b) G H = some (e, ⟨G, H'⟩) := suc_fuel (N := N) fun L n h4 h5 => by
              simp only [exC, hb1, hg, hN L n h4 h5]
            refine ⟨e, ⟨G, H'⟩, hex, F, hF, ?_⟩
            cases e <;> exact h
        · cases h
      · cases hc
  | .exit id, cc, hc, L, F, G, hF, H, kn, ke, kr, r, h => by
    cases hc
    exact ⟨.exit id, ⟨G, H⟩, suc_fuel (N := 0) fun L n _ _ => rfl, F, hF, h⟩
  | .scope x, cc, hc, L, F, G, hF, H, kn, ke, kr, r, h => by
    simp only [compC] at hc
    obtain ⟨e, s, ⟨N, h1⟩, h2⟩ := code_ok hs x hc hF h
    exact ⟨e, s, suc_fuel (N := N) fun L n h4 h5 => by simp only [exC]; exact h1 L n h4 h5, h2⟩
  | .label l, cc, hc, L, F, G, hF, H, kn, ke, kr, r, h => by
    cases hc
    exact ⟨.normal, ⟨G, H⟩, suc_fuel (N := 0) fun L n _ _ => rfl, F, hF, h⟩
  | .ret, cc, hc, L, F, G, hF, H, kn, ke, kr, r, h => by
    cases hc
    exact ⟨.ret, ⟨G, H⟩, suc_fuel (N := 0) fun L n _ _ => rfl, F, hF, h⟩
  | .goto l, cc, hc, L, F, G, hF, H, kn, ke, kr, r, h => by simp [compC] at hc
  | .refuse w, cc, hc, L, F, G, hF, H, kn, ke, kr, r, h => by simp [compC] at hc

/-! ### Calls -/
theorem res_ok : ∀ {l : List ResultVar} {cs : List CRes}, compRes l = some cs → ∀ {F : NF} {G : Fr}, RF F G → ∀ {H : AH} {k : List AV → Res} {r : Ext × AV × AH}, (resOf cs).run ⟨E, call⟩ F H k = some r → ∃ vs, resultsA E G H l = some vs ∧ k vs = some r
  | [], cs, hc, F, G, hF, H, k, r, h => by cases hc; exact ⟨[], rfl, h⟩
  | .tmp t :: l, cs, hc, F, G, hF, H, k, r, h => by
    simp only [compRes] at hc
    split at hc
    · rename_i cs' hl
      cases hb : Nat.blt t 512 with
      | false => rw [hb] at hc; cases hc
      | true =>
        rw [hb] at hc
        cases hc
        change (slotOf t).get F (fun v => (resOf cs').run ⟨E, call⟩ F H fun l => k (v :: l)) = some r at h
        rw [slot_get] at h
        obtain ⟨vs, h1, h2⟩ := res_ok hl hF h
        exact ⟨look F t :: vs, by simp only [resultsA, h1]; rw [hF t (blt_lt hb)], h2⟩
    · cases hc
  | .cell a t :: l, cs, hc, F, G, hF, H, k, r, h => by
    simp only [compRes] at hc
    split at hc
    · rename_i cs' hl
      cases hb : Nat.blt a 512 with
      | false => rw [hb] at hc; cases hc
      | true =>
        rw [hb] at hc
        cases hc
        change (slotOf a).get F (fun p => p.ifPtr (fun b o => optK (loadT E t (.ptr b o) H) fun v => (resOf cs').run ⟨E, call⟩ F H fun l => k (v :: l)) none) = some r at h
        rw [slot_get] at h
        replace h := ifPtr_ok h
        rcases h with ⟨b, o, hp, h⟩ | h
        · obtain ⟨v, hv, h⟩ := optK_ok h
          obtain ⟨vs, h1, h2⟩ := res_ok hl hF h
          exact ⟨_, by simp only [resultsA, ← hF a (blt_lt hb), hp, hv, h1], h2⟩
        · cases h
    · cases hc
theorem oneK_eq (l : List AV) (k : KA) : oneK l k = k (oneOr l) := by
  rcases l with _ | ⟨v, _ | ⟨w, l⟩⟩ <;> rfl
theorem enter_ok : ∀ (l : List AV) (i : Nat) {F : NF} {G : Fr} {k : NF → Res} {r : Ext × AV × AH}, i + l.length ≤ 512 → RF F G → enterK l i F k = some r → ∃ F', RF F' (G.put i l) ∧ k F' = some r
  | [], i, F, G, k, r, hi, hF, h => ⟨F, hF, h⟩
  | x :: l, i, F, G, k, r, hi, hF, h => by
    change (slotOf i).set x F (fun F => enterK l (Nat.succ i) F k) = some r at h
    rw [slot_set] at h
    rw [List.length_cons] at hi
    obtain ⟨F', h1, h2⟩ := enter_ok l (i + 1) (by omega) (hF.set (by omega) x) h
    exact ⟨F', h1, h2⟩
theorem look_e3 (t : Nat) : look e3 t = .tup [] := by
  show (((N8.all (N8.all (N8.all (AV.tup [])))).sel _).sel _).sel _ = _
  rw [N8.sel_all, N8.sel_all, N8.sel_all]
theorem rf_nil : RF e3 (Tr.nil : Fr) := fun t _ => by
  rw [look_e3, tmpA, Tr.get_nil]
theorem fast_ok (hk : ∀ {f : FuncId} {i : FI}, E.fn.get f = some i → ∀ args H, E.hook f args H = none) (L0 : Nat) : ∀ n, Sim (fastF E.ty E.fn E L0 n) (fun L => exF E L n)
  | 0 => fun f args H k r h => by cases h
  | n + 1 => fun f args H k r h => by
    have ih := fast_ok hk L0 n
    change (fnOf E.ty E.fn f).run ⟨E, fastF E.ty E.fn E L0 n⟩ L0 args H k = some r at h
    unfold fnOf at h
    cases hf : E.fn.get f with
    | none =>
      rw [hf] at h
      change optK (E.hook f args H) (fun p => k p.1 p.2) = some r at h
      obtain ⟨⟨v, H'⟩, h1, h⟩ := optK_ok h
      exact ⟨v, H', 0, fun L _ => by simp only [exF, h1], h⟩
    | some i =>
      rw [hf] at h
      simp only at h
      have hno := hk hf args H
      cases hc : compFn E.ty i with
      | none => rw [hc] at h; cases h
      | some c =>
        rw [hc] at h
        simp only at h
        unfold compFn at hc
        cases hb : Nat.ble i.ntmps 512 with
        | false => rw [hb] at hc; cases hc
        | true =>
          rw [hb] at hc
          simp only [cond_true] at hc
          split at hc
          · rename_i b cr hcb hcr
            cases hc
            change iteK (Nat.ble args.length i.ntmps) (enterK args 0 e3 fun F => (semC i.ntmps b).run ⟨E, fastF E.ty E.fn E L0 n⟩ L0 F H (fun F H => (resOf cr).run ⟨E, fastF E.ty E.fn E L0 n⟩ F H fun l => oneK l fun v => k v H) (fun _ _ _ => none) (fun F H => (resOf cr).run ⟨E, fastF E.ty E.fn E L0 n⟩ F H fun l => oneK l fun v => k v H)) none = some r at h
            obtain ⟨hlen, h⟩ := iteK_one h
            rw [Nat.ble_eq] at hlen hb
            obtain ⟨F, hF, h⟩ := enter_ok args 0 (by omega) rf_nil h
            obtain ⟨e, s, ⟨N, h1⟩, F', hF', h⟩ := code_ok ih i.body hcb hF h
            have fin : (resOf cr).run ⟨E, fastF E.ty E.fn E L0 n⟩ F' s.H (fun l => oneK l fun v => k v s.H) = some r → e ≠ .exit 0 → (∀ j, e ≠ .exit j) → ∃ v H' N, (∀ L, N ≤ L → exF E L (n + 1) f args H = some (v, H')) ∧ k v H' = some r := by
              intro h _ hne
              obtain ⟨vs, h2, h⟩ := res_ok hcr hF' h
              rw [oneK_eq] at h
              refine ⟨oneOr vs, s.H, N, fun L hL => ?_, h⟩
              simp only [exF, hno, hf]
              rw [if_neg (by omega), h1 L L hL hL]
              cases e with
              | exit j => exact absurd rfl (hne j)
              | normal => simp only [h2]
              | ret => simp only [h2]
            cases e with
            | exit j => cases h
            | normal => exact fin h (by simp) (by simp)
            | ret => exact fin h (by simp) (by simp)
          · cases hc
end

/-- Who has code has no other answer. -/
theorem hookX_fn {E : Env} {ib : FuncId} (h : E.hook = hookX ib) (hn : E.fn.get ib = none) {f : FuncId} {i : FI} (hf : E.fn.get f = some i) (args : List AV) (H : AH) : E.hook f args H = none := by
  rw [h]
  unfold hookX
  cases hq : Nat.beq f ib with
  | false => rfl
  | true =>
    rw [Nat.eq_of_beq_eq_true hq, hn] at hf
    cases hf
/-- A law that the fast twin finds true. -/
theorem fast_law {E : Env} (ok : TyOk E) (fok : FnOk E) (hk : HookOk E) (hkn : HookNum E) (hkf : ∀ {f : FuncId} {i : FI}, E.fn.get f = some i → ∀ args H, E.hook f args H = none) (hm : E.P.follows .mixedOrders = true) {L n : Nat} {f : FuncId} {fn : Func} (hf : E.P.funcs[f]? = some fn) (hb : fn.body.isSome = true) (hnm : (fn.name == "runtime.NumGoroutine") = false) {args : List AV}
    (h : fastB E.ty E.fn E L n f args = true)
    {γ : Cx} (hγ : ∀ i, γ.loc i = none) (hsym : ∀ {i : Nat} {lo hi : Int}, E.syms.get i = some (lo, hi) → lo ≤ γ.sym i ∧ γ.sym i ≤ hi) {args' : List Value} (hargs : VRs γ args args') {w : World}
    (hglob : ∀ {g : Nat} {v : AV}, E.globs.get g = some v → g < w.heap.size ∧ ∃ rv, w.cell? ⟨g, 0, none⟩ = some rv ∧ VR γ v rv) :
    Calls E.P f args'.toArray w fun e w' => e = .returned (.bool true) ∧ RowKit.Below w.heap.size w w' := by
  unfold fastB at h
  split at h
  · rename_i e b H' he
    subst h
    obtain ⟨v, H1, N, h1, h2⟩ := fast_ok hkf L n f args ⟨0, .nil⟩ _ _ he
    simp only [Option.some.injEq, Prod.mk.injEq] at h2
    obtain ⟨-, rfl, rfl⟩ := h2
    refine law_true (L := N) (n := n) ok fok @hk @hkn hm hf hb hnm (args := args) ?_ hγ hsym hargs hglob
    have h1 := h1 N (Nat.le_refl _)
    dsimp only at h1
    rw [h1]
  · cases h
end Go.Proofs.YteopodohghnokaaGreatDoor.Ex
end
section
namespace Go.Proofs.YteopodohghnokaaGreatDoor.Ex
open Go
set_option linter.unusedVariables false
set_option linter.unusedSimpArgs false

/-- What is known of an argument: a number a * q + c (q between the bounds of its place); a truth; one cell. -/
inductive Ar where
  | num (k : IntKind) (a c : Int)
  | tru (b : Bool)
  | any
def Ar.av (j : Nat) : Ar → AV
  | .num k a c => if a = 0 then .int k c else .lin k j a c
  | .tru b => .bool b
  | .any => .opq j
def avsOf : Nat → List Ar → List AV
  | _, [] => []
  | j, x :: l => x.av j :: avsOf (j + 1) l
def Ar.ok (x : Ar) (b : Int × Int) (q : Int) (v : Value) : Prop := (b.1 ≤ q ∧ q ≤ b.2) ∧ match x with
  | .num k a c => v = .int k (a * q + c)
  | .tru b => v = .bool b
  | .any => v.oneCell' = true
inductive ArsOk : List (Int × Int) → List Ar → List Int → List Value → Prop
  | nil : ArsOk [] [] [] []
  | cons {b : Int × Int} {x : Ar} {q : Int} {v : Value} {bs : List (Int × Int)} {l : List Ar} {qs : List Int} {vs : List Value} : x.ok b q v → ArsOk bs l qs vs → ArsOk (b :: bs) (x :: l) (q :: qs) (v :: vs)
theorem avsOf_ok {γ : Cx} : ∀ {bs : List (Int × Int)} {l : List Ar} {qs : List Int} {vs : List Value}, ArsOk bs l qs vs → ∀ (j : Nat), (∀ i, γ.sym (j + i) = qs.getD i 0) → (∀ i v, vs[i]? = some v → γ.opq (j + i) = v) → VRs γ (avsOf j l) vs
  | _, _, _, _, .nil, j, h1, h2 => .nil
  | _, _, _, _, .cons (x := x) (q := q) (v := v) (l := l) (qs := qs) (vs := vs) hx hl, j, h1, h2 => by
    have ih := avsOf_ok hl (j + 1) (fun i => by have := h1 (i + 1); rw [show j + 1 + i = j + (i + 1) by omega, this]; rfl) (fun i v' hv => by have := h2 (i + 1) v' hv; rwa [show j + 1 + i = j + (i + 1) by omega])
    refine .cons ?_ ih
    cases x with
    | num k a c =>
      obtain ⟨_, hx⟩ := hx
      have hx : v = .int k (a * q + c) := hx
      subst hx
      have hs : γ.sym j = q := by have := h1 0; simpa using this
      unfold Ar.av
      simp only
      split
      · rename_i ha
        subst ha
        rw [Int.zero_mul, Int.zero_add]
        exact .int _ _
      · rw [← hs]
        exact .lin _ _ _ _
    | tru b =>
      have : v = .bool b := hx.2
      subst this
      exact .bool b
    | any =>
      have hs : γ.opq j = v := h2 0 v rfl
      have : VR γ (.opq j) (γ.opq j) := .opq j (by rw [hs]; exact hx.2)
      rw [hs] at this
      exact this
theorem argBounds_ok : ∀ {bs : List (Int × Int)} {l : List Ar} {qs : List Int} {vs : List Value}, ArsOk bs l qs vs → ∀ (i : Nat) (lo hi : Int), bs[i]? = some (lo, hi) → lo ≤ qs.getD i 0 ∧ qs.getD i 0 ≤ hi
  | _, _, _, _, .nil, i, lo, hi, h => by simp at h
  | _, _, _, _, .cons (x := x) (q := q) (v := v) (l := l) (qs := qs) (vs := vs) hx hl, i, lo, hi, h => by
    cases i with
    | zero =>
      simp only [List.getElem?_cons_zero, Option.some.injEq] at h
      subst h
      exact hx.1
    | succ i =>
      simp only [List.getElem?_cons_succ] at h
      exact argBounds_ok hl i lo hi h

/-- A program, with who answers for what has no body. -/
structure Known (P : Program) (ib cs : FuncId) : Prop where
  byteFn : ByteFn P ib
  countFn : CountFn P cs
  noByte : (mkFns 0 P.funcs.toList .nil).get ib = none
  noCount : (mkFns 0 P.funcs.toList .nil).get cs = none
  mixed : P.follows .mixedOrders = true
noncomputable def caseEnv (P : Program) (ib cs : FuncId) (globs : Tr AV) (bs : List (Int × Int)) : Env := envOf P (Tr.nil.put 0 bs) globs (hookY ib cs)
/-- What the fast twin says of a case. -/
noncomputable def caseOk (P : Program) (ib cs f : FuncId) (globs : Tr AV) (bs : List (Int × Int)) (ars : List Ar) : Bool := fastB (mkTys P 0 P.types.size .nil) (mkFns 0 P.funcs.toList .nil) (caseEnv P ib cs globs bs) 100000 300 f (avsOf 0 ars)
theorem case_law {P : Program} {ib cs f : FuncId} {fn : Func} (hP : Known P ib cs) (hf : P.funcs[f]? = some fn) (hb : fn.body.isSome = true) (hnm : (fn.name == "runtime.NumGoroutine") = false)
    {globs : Tr AV} {bs : List (Int × Int)} {ars : List Ar} (h : caseOk P ib cs f globs bs ars = true) {qs : List Int} {vs : List Value} (ha : ArsOk bs ars qs vs) {w : World} {op : Nat → Value} (hop : ∀ i v, vs[i]? = some v → op i = v)
    (hglob : ∀ {g : Nat} {v : AV}, globs.get g = some v → g < w.heap.size ∧ ∃ rv, w.cell? ⟨g, 0, none⟩ = some rv ∧ VR ⟨fun _ => none, fun i => qs.getD i 0, op⟩ v rv) :
    Calls P f vs.toArray w fun e w' => e = .returned (.bool true) ∧ RowKit.Below w.heap.size w w' := by
  refine fast_law (E := caseEnv P ib cs globs bs) (envOf_ty _ _ _ _) (envOf_fn _ _ _ _) (hookY_ok (ib := ib) (cs := cs) rfl hP.byteFn hP.countFn) (hookY_num (ib := ib) (cs := cs) rfl) (fun {f i} hf args H => ?_) hP.mixed hf hb hnm h
    (γ := ⟨fun _ => none, fun i => qs.getD i 0, op⟩) (fun _ => rfl) (fun {i lo hi} hi' => ?_) (avsOf_ok ha 0 (fun i => by rw [Nat.zero_add]) (fun i v hv => by rw [Nat.zero_add]; exact hop i v hv)) hglob
  · show hookY ib cs f args H = none
    have hf : (mkFns 0 P.funcs.toList .nil).get f = some i := hf
    unfold hookY
    split
    · rename_i hq
      rw [Nat.eq_of_beq_eq_true hq, hP.noCount] at hf
      cases hf
    · exact hookX_fn (E := caseEnv P ib cs globs bs |> fun E => { E with hook := hookX ib }) (ib := ib) rfl hP.noByte hf args H
  · have hi' : ((Tr.nil : Tr (Int × Int)).put 0 bs).get i = some (lo, hi) := hi'
    rw [Tr.get_put] at hi'
    split at hi'
    · exact argBounds_ok ha i lo hi (by simpa using hi')
    · rw [Tr.get_nil] at hi'; cases hi'
end Go.Proofs.YteopodohghnokaaGreatDoor.Ex
end
section
namespace Go.Proofs.YteopodohghnokaaGreatDoor.Ex
open Go
set_option linter.unusedVariables false
set_option linter.unusedSimpArgs false

/-- Steps that turn no block of old but one. -/
structure Aside (D : Nat) (w w' : World) : Prop where
  size : w.heap.size ≤ w'.heap.size
  still : Same w w'
  keep : ∀ β, β < w.heap.size → β ≠ D → w'.heap[β]? = w.heap[β]?
theorem Aside.refl (D : Nat) (w : World) : Aside D w w := ⟨Nat.le_refl _, .refl _, fun _ _ _ => rfl⟩
theorem Aside.trans {D : Nat} {w w' w'' : World} (h : Aside D w w') (g : Aside D w' w'') : Aside D w w'' :=
  ⟨Nat.le_trans h.size g.size, h.still.trans g.still, fun β a b => (g.keep β (Nat.lt_of_lt_of_le a h.size) b).trans (h.keep β a b)⟩
theorem Aside.of_below {D : Nat} {w w' : World} (h : RowKit.Below w.heap.size w w') : Aside D w w' := ⟨h.size, ⟨h.os, h.tape, h.output⟩, fun β a _ => h.block β a⟩
section
variable {E : Env} {γ γ' : Cx} {N D n n' : Nat} {H H' : HM} {w w' w'' : World}
theorem Rel.aside (h : Rel E γ N H w) (hx : Aside D w w') (hD : ∀ id k l, H id = some k → γ.loc id = some l → l.1 ≠ D) (hN : N ≤ D) (hw : N ≤ w.heap.size) : Rel E γ N H w' where
  blk := fun hk => by
    obtain ⟨β, ω, σ, hb⟩ := h.blk hk
    exact ⟨β, ω, σ, hb.keep (.refl _) (hx.keep β (h.low hb.loc).2 (hD _ _ _ hk hb.loc))⟩
  low := fun hl => ⟨(h.low hl).1, Nat.lt_of_lt_of_le (h.low hl).2 hx.size⟩
  inj := h.inj
  glob := fun hg => by
    obtain ⟨h1, rv, h2, h3⟩ := h.glob hg
    exact ⟨h1, rv, (cell?_heap (hx.keep _ (by omega) (by omega)) 0).trans h2, h3⟩
  sym := h.sym
/-- What a round by hand adds behind. -/
theorem Nxt.aside (h : Nxt γ H w n γ' H' w' n') (hx : Aside D w' w'') (hD : w.heap.size ≤ D) : Nxt γ H w n γ' H' w'' n' where
  le := h.le
  size := Nat.le_trans h.size hx.size
  keep := fun β a b => (hx.keep β (Nat.lt_of_lt_of_le a h.size) (by omega)).trans (h.keep β a b)
  img := h.img
  dom := h.dom
  num := h.num
  still := h.still.trans hx.still
  new := h.new
/-- .. and ahead. -/
theorem Nxt.ahead (hx : Aside D w w') (hD : w.heap.size ≤ D) (h : Nxt γ H w' n γ' H' w'' n') : Nxt γ H w n γ' H' w'' n' where
  le := h.le
  size := Nat.le_trans hx.size h.size
  keep := fun β a b => (h.keep β (Nat.lt_of_lt_of_le a hx.size) b).trans (hx.keep β a (by omega))
  img := fun hk hl => (h.img hk hl).imp (fun q => Nat.le_trans hx.size q) id
  dom := h.dom
  num := h.num
  still := hx.still.trans h.still
  new := h.new
/-- A block made by hand is none of the runner's later. -/
theorem off_made (h : Nxt γ H w' n γ' H' w'' n') (hD : D < w'.heap.size) (hoff : ∀ id k l, H id = some k → γ.loc id = some l → l.1 ≠ D) : ∀ id k l, H' id = some k → γ'.loc id = some l → l.1 ≠ D := fun id k l hk hl e => by
  rcases h.img hk hl with q | ⟨j, k0, l0, a, b, c⟩
  · omega
  · exact hoff j k0 l0 a b (c.trans e)
end

/-- What a slice's cells are, as the machine has them. -/
theorem loadA_cells {E : Env} {γ : Cx} {N : Nat} {H : AH} {w : World} (h : Rel E γ N H.bs.get w) {b o n : Nat} {l : List AV} (hl : loadA H b o n = some l) {β ω σ : Nat} (hb : γ.loc b = some (β, ω, σ)) :
    l.length = n ∧ ∀ i x, l[i]? = some x → ∃ v, w.cell? ⟨β, ω + o + i, none⟩ = some v ∧ VR γ x v := by
  unfold loadA at hl
  split at hl
  · rename_i k hk
    split at hl
    · rename_i hle
      obtain ⟨β', ω', σ', hB⟩ := h.blk hk
      have e := hB.loc.symm.trans hb
      simp only [Option.some.injEq, Prod.mk.injEq] at e
      obtain ⟨rfl, rfl, rfl⟩ := e
      have key : ∀ (n o : Nat) (l : List AV), k.cells.take o n = some l → l.length = n ∧ ∀ i x, l[i]? = some x → k.cells.get (o + i) = some x := by
        intro n
        induction n with
        | zero =>
          intro o l hl
          simp only [Tr.take, Option.some.injEq] at hl
          subst hl
          exact ⟨rfl, fun i x hx => by simp at hx⟩
        | succ n ih =>
          intro o l hl
          simp only [Tr.take] at hl
          split at hl
          · rename_i x hx
            split at hl
            · rename_i r hr
              simp only [Option.some.injEq] at hl
              subst hl
              obtain ⟨h1, h2⟩ := ih (o + 1) r hr
              refine ⟨by simp [h1], fun i y hy => ?_⟩
              cases i with
              | zero => simp only [List.getElem?_cons_zero, Option.some.injEq] at hy; subst hy; exact hx
              | succ i =>
                rw [List.getElem?_cons_succ] at hy
                have := h2 i y hy
                rwa [show o + (i + 1) = o + 1 + i by omega]
            · cases hl
          · cases hl
      obtain ⟨h1, h2⟩ := key n o l hl
      refine ⟨h1, fun i x hx => ?_⟩
      have hi : i < l.length := (List.getElem?_eq_some_iff.1 hx).1
      obtain ⟨v, av, k1, k2, k3, k4⟩ := hB.cell (o + i) (by omega)
      rw [h2 i x hx] at k1
      simp only [Option.some.injEq] at k1
      subst k1
      exact ⟨v, by rw [Nat.add_assoc]; exact k3, k4⟩
    · cases hl
  · cases hl

/-! ### A map of one entry -/
theorem run_lookup_one {P : Program} {w : World} {mt kt et : TypeId} {M : Nat} {s : ByteArray} {v : Value} {c k : Nat} (hm : P.underlying mt = some (.map kt et)) (hk : P.underlying kt = some .string) (hb : w.heap[M]? = some (.map #[{ key := .string s, val := v, born := c }] k)) :
    (Instr.lookup mt (.map (some M)) (.string s) false).run P w = .ok v w := by
  have hf : Instr.findNow .string (.string s) [({ key := .string s, val := v, born := c } : MapEntry)] 0 = some (some (0, v)) := by
    have : (s == s) = true := by rw [beq_toListBytes]; simp
    simp only [Instr.findNow, Instr.sameNow, this]
  have hc : ∀ b, (Instr.checkKey b 10000 kt (.string s)).run P w = .ok () w := fun b => MapKept.run_checkKey (k := .string s) hk (by simp [MapKept.IsKey]) b 9999
  simp [Instr.lookup, run_underlying hm, MapKept.run_getObj_map hb, hc, MapKept.run_findKey hk hf, Result.andThen]
end Go.Proofs.YteopodohghnokaaGreatDoor.Ex
end
