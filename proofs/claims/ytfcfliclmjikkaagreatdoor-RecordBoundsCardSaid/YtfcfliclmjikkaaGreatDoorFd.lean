/- The fast twin: regions. -/
import Derived.Test.YtfcfliclmjikkaaGreatDoorFc
namespace Go.Proofs.YtfcfliclmjikkaaGreatDoor.Ex
open Go
set_option linter.unusedVariables false
set_option linter.unusedSimpArgs false

/-- A quick call says what the runner's calls say, given room. -/
def Sim (call : CallK) (cf : Nat → CallF) : Prop := ∀ (f : FuncId) (args : List AV) (H : AH) (k : KV) (r : Ext × AV × AH), call f args H k = some r → ∃ v H' N, (∀ L, N ≤ L → cf L f args H = some (v, H')) ∧ k v H' = some r

theorem memo_ok {call : CallK} {cf : Nat → CallF} (hs : Sim call cf) {f : FuncId} {args : List AV} {H : AH} {k : KV} {r : Ext × AV × AH} (h : memoK (call f args H endK) k = some r) : ∃ v H' N, (∀ L, N ≤ L → cf L f args H = some (v, H')) ∧ k v H' = some r := by
  cases hx : call f args H endK with
  | none => rw [hx] at h; cases h
  | some p =>
    obtain ⟨e, v, H'⟩ := p
    rw [hx] at h
    obtain ⟨v', H'', N, h1, h2⟩ := hs _ _ _ _ _ hx
    simp only [endK, Option.some.injEq, Prod.mk.injEq] at h2
    obtain ⟨-, rfl, rfl⟩ := h2
    exact ⟨_, _, N, h1, h⟩
section
variable {E : Env} {nt : Nat} {ops : Array Oper} {call : CallK} {cf : Nat → CallF}
def dstOk (nt : Nat) (d : Option Nat) : Prop := ∀ t, d = some t → t < nt ∧ t < 512
theorem putF_ok {d : Option Nat} (hd : dstOk nt d) {F : NF} {G : Fr} (hF : RF F G) (v : AV) : ∃ G', putA nt G d v = some G' ∧ RF (wrV d v F) G' := by
  cases d with
  | none => exact ⟨G, rfl, hF⟩
  | some t =>
    obtain ⟨h1, h2⟩ := hd t rfl
    exact ⟨G.set t v, by rw [putA, if_pos h1], hF.set h2 v⟩
theorem finF_ok (hs : Sim call cf) {d : Option Nat} (hd : dstOk nt d) {F : NF} {G : Fr} (hF : RF F G) {R : R} {k : KN} {r : Ext × AV × AH} (h : finK call (wrOf d).run F R k = some r) :
    ∃ s N, (∀ L, N ≤ L → finA (cf L) nt G d R = some s) ∧ ∃ F', RF F' s.F ∧ k F' s.H = some r := by
  cases R with
  | val v H' =>
    change (wrOf d).run v F (fun F => k F H') = some r at h
    rw [wr_eq] at h
    obtain ⟨G', h1, h2⟩ := putF_ok hd hF v
    exact ⟨⟨G', H'⟩, 0, fun L _ => by simp only [finA, h1], _, h2, h⟩
  | skip H' =>
    change (wrOf d).run (.tup []) F (fun F => k F H') = some r at h
    rw [wr_eq] at h
    obtain ⟨G', h1, h2⟩ := putF_ok hd hF (.tup [])
    exact ⟨⟨G', H'⟩, 0, fun L _ => by simp only [finA, h1], _, h2, h⟩
  | call f args H' =>
    change memoK (call f args H' endK) (fun v H => (wrOf d).run v F fun F => k F H) = some r at h
    obtain ⟨v, H'', N, h1, h⟩ := memo_ok hs h
    rw [wr_eq] at h
    obtain ⟨G', h2, h3⟩ := putF_ok hd hF v
    exact ⟨⟨G', H''⟩, N, fun L hL => by simp only [finA, h1 L hL, h2], _, h3, h⟩
theorem compG_ok {o : Oper} {g : Option (Nat × Bool)} (h : compG ops o = some g) : (g = none ∧ ∀ G, wantedA ops G o = some true) ∨ ∃ t w, g = some (t, w) ∧ t < 512 ∧ ∀ G, wantedA ops G o = (match tmpA G t with
      | .bool b => some (b == w)
      | .tup _ => some false
      | _ => none) := by
  unfold compG at h
  split at h
  · rename_i hg
    cases h
    exact .inl ⟨rfl, fun G => by rw [wantedA, hg]⟩
  · rename_i j want hg
    split at h
    · rename_i p hp
      split at h
      · rename_i t ht
        cases hb : Nat.blt t 512 with
        | false => rw [hb] at h; cases h
        | true =>
          rw [hb] at h
          cases h
          exact .inr ⟨t, want, rfl, blt_lt hb, fun G => by rw [wantedA, hg]; simp only [hp, ht]; cases tmpA G t <;> rfl⟩
      · cases h
    · cases h
theorem semOp_none (E : Env) (d : Option Nat) (o : CO) (call : CallK) (F : NF) (H : AH) (k : KN) : (semOp ⟨none, d, o⟩).run ⟨E, call⟩ F H k = (semO (wrOf d).run o).run ⟨E, call⟩ F H k := rfl
theorem semOp_some (E : Env) (t : Nat) (w : Bool) (d : Option Nat) (o : CO) (call : CallK) (F : NF) (H : AH) (k : KN) : (semOp ⟨some (t, w), d, o⟩).run ⟨E, call⟩ F H k = (guardS (slotOf t).get (wrOf d).run (semO (wrOf d).run o).run w).run ⟨E, call⟩ F H k := rfl
theorem opF_ok (hs : Sim call cf) {o : Oper} {c : COp} (hc : compOp E.ty nt ops o = some c) {F : NF} {G : Fr} (hF : RF F G) {H : AH} {k : KN} {r : Ext × AV × AH} (h : (semOp c).run ⟨E, call⟩ F H k = some r) :
    ∃ s N, (∀ L, N ≤ L → exOne E (cf L) nt ops o G H = some s) ∧ ∃ F', RF F' s.F ∧ k F' s.H = some r := by
  unfold compOp at hc
  split at hc
  · cases hc
  · rename_i hd
    split at hc
    · rename_i g co hg hco
      cases hc
      have hd : dstOk nt o.dst := by
        intro t ht
        rw [ht] at hd
        simp only [Bool.and_eq_true] at hd
        exact ⟨blt_lt hd.1, blt_lt hd.2⟩
      have run : (∀ G, wantedA ops G o = some true → ∀ F, RF F G → (semO (wrOf o.dst).run co).run ⟨E, call⟩ F H k = some r → ∃ s N, (∀ L, N ≤ L → exOne E (cf L) nt ops o G H = some s) ∧ ∃ F', RF F' s.F ∧ k F' s.H = some r) := by
        intro G hw F hF h
        obtain ⟨R, h1, h⟩ := semO_ok hco hF h
        obtain ⟨s, N, h2, h3⟩ := finF_ok hs hd hF h
        exact ⟨s, N, fun L hL => by rw [exOne, hw]; simp only [h1]; exact h2 L hL, h3⟩
      have skip : (∀ G, wantedA ops G o = some false → ∀ F, RF F G → ((wrOf o.dst).run (.tup []) F fun F => k F H) = some r → ∃ s N, (∀ L, N ≤ L → exOne E (cf L) nt ops o G H = some s) ∧ ∃ F', RF F' s.F ∧ k F' s.H = some r) := by
        intro G hw F hF h
        rw [wr_eq] at h
        obtain ⟨G', h1, h2⟩ := putF_ok hd hF (.tup [])
        exact ⟨⟨G', H⟩, 0, fun L _ => by rw [exOne, hw]; simp only [h1], _, h2, h⟩
      rcases compG_ok hg with ⟨rfl, hw⟩ | ⟨t, w, rfl, ht, hw⟩
      · rw [semOp_none] at h
        exact run G (hw G) F hF h
      · rw [semOp_some] at h
        have hw := hw G
        rw [← hF t ht] at hw
        cases w
        · change (slotOf t).get F (fun v => v.ifBool (fun b => iteK b ((wrOf o.dst).run (.tup []) F fun F => k F H) ((semO (wrOf o.dst).run co).run ⟨E, call⟩ F H k)) (v.ifTup (fun _ => (wrOf o.dst).run (.tup []) F fun F => k F H) none)) = some r at h
          rw [slot_get] at h
          replace h := ifBool_ok h
          rcases h with ⟨b, hb, h⟩ | h
          · rw [hb] at hw
            replace h := iteK_ok h
            rcases h with ⟨rfl, h⟩ | ⟨rfl, h⟩
            · exact skip G hw F hF h
            · exact run G hw F hF h
          · replace h := ifTup_ok h
            rcases h with ⟨l, hl, h⟩ | h
            · rw [hl] at hw
              exact skip G hw F hF h
            · cases h
        · change (slotOf t).get F (fun v => v.ifBool (fun b => iteK b ((semO (wrOf o.dst).run co).run ⟨E, call⟩ F H k) ((wrOf o.dst).run (.tup []) F fun F => k F H)) (v.ifTup (fun _ => (wrOf o.dst).run (.tup []) F fun F => k F H) none)) = some r at h
          rw [slot_get] at h
          replace h := ifBool_ok h
          rcases h with ⟨b, hb, h⟩ | h
          · rw [hb] at hw
            replace h := iteK_ok h
            rcases h with ⟨rfl, h⟩ | ⟨rfl, h⟩
            · exact run G hw F hF h
            · exact skip G hw F hF h
          · replace h := ifTup_ok h
            rcases h with ⟨l, hl, h⟩ | h
            · rw [hl] at hw
              exact skip G hw F hF h
            · cases h
    · cases hc
theorem opsF_ok (hs : Sim call cf) : ∀ {l : List Oper} {cs : List COp}, compOps E.ty nt ops l = some cs → ∀ {F : NF} {G : Fr}, RF F G → ∀ {H : AH} {k : KN} {r : Ext × AV × AH}, (semOps cs).run ⟨E, call⟩ F H k = some r →
    ∃ s N, (∀ L, N ≤ L → exList E (cf L) nt ops l G H = some s) ∧ ∃ F', RF F' s.F ∧ k F' s.H = some r
  | [], cs, hc, F, G, hF, H, k, r, h => by
    cases hc
    exact ⟨⟨G, H⟩, 0, fun L _ => rfl, F, hF, h⟩
  | o :: l, cs, hc, F, G, hF, H, k, r, h => by
    simp only [compOps] at hc
    split at hc
    · rename_i c cs hc1 hc2
      cases hc
      change (semOp c).run ⟨E, call⟩ F H (fun F H => (semOps cs).run ⟨E, call⟩ F H k) = some r at h
      split at hc1
      · -- a quiet function is deferred
        unfold compD at hc1
        split at hc1
        · rename_i c1 k1 k2 k3
          split at hc1
          · rename_i f k4 k5
            simp only [Option.map_eq_some_iff] at hc1
            obtain ⟨x, hx, rfl⟩ := hc1
            change (rdOf x).run F (fun v => v.ifFunc (fun f a b => iteK (isOneL a b) (iteK (E.quiet f) ((semOps cs).run ⟨E, call⟩ F H k) none) none) none) = some r at h
            rw [rd_eq] at h
            replace h := ifFunc_ok h
            rcases h with ⟨g, first, cap, hv, h⟩ | h
            · obtain ⟨hone, ha⟩ := iteK_one h
              obtain ⟨hq, hb⟩ := iteK_one ha
              unfold isOneL at hone
              split at hone
              · have hfv := compOpd_ok hF hx
                rw [hv] at hfv
                obtain ⟨s', N', h2, h3⟩ := opsF_ok hs hc2 hF hb
                refine ⟨s', N', fun L hL => ?_, h3⟩
                have hone : exOne E (cf L) nt ops o G H = none := by
                  unfold exOne wantedA
                  rw [k2]
                  simp only [k1, exOp]
                have hdef : deferA E G o = true := by
                  unfold deferA
                  simp only [k1, k2, k3, k4, k5, hfv, hq]
                rw [exList, hone]
                simp only [hdef]
                exact h2 L hL
              · cases hone
            · cases h
          · cases hc1
        · cases hc1
      · obtain ⟨s, N, h1, F', hF', h⟩ := opF_ok hs hc1 hF h
        obtain ⟨s', N', h2, h3⟩ := opsF_ok hs hc2 hF' h
        exact ⟨s', max N N', fun L hL => by rw [exList, h1 L (by omega)]; exact h2 L (by omega), h3⟩
    · cases hc
theorem draw_list {E : Env} {cl : CallF} : ∀ {L : List (Nat × Nat)} {l : List Oper}, pickOps ops L = some l → (l.all fun o => !isDefer o.op) = true → ∀ {G : Fr} {H : AH} {s : St}, exList E cl nt ops l G H = some s → ∀ (past : List AH) (ini : Tr Blk), exDraw E cl nt ops L G H past ini = some s
  | [], l, hp, hnd, G, H, s, h, past, ini => by cases hp; exact h
  | (i, d) :: L, l, hp, hnd, G, H, s, h, past, ini => by
    simp only [pickOps] at hp
    split at hp
    · split at hp
      · rename_i o r ho hr
        cases hp
        simp only [exList] at h
        rw [List.all_cons, Bool.and_eq_true] at hnd
        split at h
        · rename_i s1 hs1
          simp only [exDraw, ho, hs1]
          split <;> exact draw_list hr hnd.2 h _ _
        · exfalso
          split at h
          · rename_i hd
            have h1 := hnd.1
            unfold deferA at hd
            split at hd
            · rename_i k1 _ _
              simp [isDefer, k1] at h1
            · cases hd
          · cases h
      · cases hp
    · cases hp

/-! ### Regions whose order is open -/
theorem gclo_ok {g : Option (Nat × Bool)} {o : Oper} (hg : compG ops o = some g) {F : NF} {G : Fr} (hF : RF F G) {k : Bool → Res} {r : Ext × AV × AH} (h : (gclo g).run F k = some r) : ∃ b, wantedA ops G o = some b ∧ k b = some r := by
  rcases compG_ok hg with ⟨rfl, hw⟩ | ⟨t, w, rfl, ht, hw⟩
  · exact ⟨true, hw G, h⟩
  · change (slotOf t).get F (fun v => v.ifBool (fun b => k (b == w)) (v.ifTup (fun _ => k false) none)) = some r at h
    rw [slot_get] at h
    have hw := hw G
    rw [← hF t ht] at hw
    replace h := ifBool_ok h
    rcases h with ⟨b, hb, h⟩ | h
    · rw [hb] at hw
      exact ⟨_, hw, h⟩
    · replace h := ifTup_ok h
      rcases h with ⟨l, hl, h⟩ | h
      · rw [hl] at hw
        exact ⟨_, hw, h⟩
      · cases h
theorem compOp_g {o : Oper} {c : COp} (h : compOp E.ty nt ops o = some c) : compG ops o = some c.g := by
  unfold compOp at h
  split at h
  · cases h
  · split at h
    · rename_i g co hg hco
      cases h
      exact hg
    · cases h
theorem drawF_ok (hs : Sim call cf) : ∀ {L : List (Nat × Nat)} {cs : List (COp × DK)}, compDraw E.ty nt ops L = some cs → ∀ {F : NF} {G : Fr}, RF F G → ∀ {H : AH} {past : List AH} {ini : Tr Blk} {k : KN} {r : Ext × AV × AH}, (semD cs).run ⟨E, call⟩ F H past ini k = some r →
    ∃ s N, (∀ M, N ≤ M → exDraw E (cf M) nt ops L G H past ini = some s) ∧ ∃ F', RF F' s.F ∧ k F' s.H = some r
  | [], cs, hc, F, G, hF, H, past, ini, k, r, h => by
    cases hc
    exact ⟨⟨G, H⟩, 0, fun L _ => rfl, F, hF, h⟩
  | (i, d) :: L, cs, hc, F, G, hF, H, past, ini, k, r, h => by
    simp only [compDraw] at hc
    split at hc
    · rename_i o ho
      split at hc
      · rename_i c q cs hc1 hq hc2
        cases hc
        change (semD1 (semOp c).run (semD cs).run c.g q).run ⟨E, call⟩ F H past ini k = some r at h
        have hg := compOp_g hc1
        unfold kindD at hq
        split at hq
        · rename_i hk
          cases hq
          change (semOp c).run ⟨E, call⟩ F H (fun F H => (semD cs).run ⟨E, call⟩ F H past ini k) = some r at h
          obtain ⟨s, N, h1, F', hF', h⟩ := opF_ok hs hc1 hF h
          obtain ⟨s', N', h2, h3⟩ := drawF_ok hs hc2 hF' h
          exact ⟨s', max N N', fun M hM => by simp only [exDraw, ho, h1 M (by omega), hk]; exact h2 M (by omega), h3⟩
        · rename_i hk
          cases hq
          change (semOp c).run ⟨E, call⟩ F H (fun F H => (semD cs).run ⟨E, call⟩ F H (H :: past) ini k) = some r at h
          obtain ⟨s, N, h1, F', hF', h⟩ := opF_ok hs hc1 hF h
          obtain ⟨s', N', h2, h3⟩ := drawF_ok hs hc2 hF' h
          exact ⟨s', max N N', fun M hM => by simp only [exDraw, ho, h1 M (by omega), hk]; exact h2 M (by omega), h3⟩
        · rename_i hk
          cases hq
          change (gclo c.g).run F (fun b => (semOp c).run ⟨E, call⟩ F H fun F H' => (semD cs).run ⟨E, call⟩ F H' past (iniK b H H' ini) k) = some r at h
          obtain ⟨b, hb, h⟩ := gclo_ok hg hF h
          obtain ⟨s, N, h1, F', hF', h⟩ := opF_ok hs hc1 hF h
          obtain ⟨s', N', h2, h3⟩ := drawF_ok hs hc2 hF' h
          refine ⟨s', max N N', fun M hM => ?_, h3⟩
          have h2 := h2 M (by omega)
          simp only [exDraw, ho, h1 M (by omega), hk, hb]
          cases b with
          | true => exact h2
          | false => exact h2
        · rename_i t a hk
          split at hq
          · cases hq
            change (semOp c).run ⟨E, call⟩ F H (fun F H => (semD cs).run ⟨E, call⟩ F H past ini k) = some r at h
            obtain ⟨s, N, h1, F', hF', h⟩ := opF_ok hs hc1 hF h
            obtain ⟨s', N', h2, h3⟩ := drawF_ok hs hc2 hF' h
            exact ⟨s', max N N', fun M hM => by simp only [exDraw, ho, h1 M (by omega), hk]; exact h2 M (by omega), h3⟩
          · rename_i hd0
            simp only [Option.map_eq_some_iff] at hq
            obtain ⟨a', ha, rfl⟩ := hq
            change (gclo c.g).run F (fun b => (rdOf a').run F fun p => iteK (sameB b E t p H d past ini) ((semOp c).run ⟨E, call⟩ F H fun F H => (semD cs).run ⟨E, call⟩ F H past ini k) none) = some r at h
            obtain ⟨b, hb, h⟩ := gclo_ok hg hF h
            rw [rd_eq] at h
            obtain ⟨hsame, h⟩ := iteK_one h
            obtain ⟨s, N, h1, F', hF', h⟩ := opF_ok hs hc1 hF h
            obtain ⟨s', N', h2, h3⟩ := drawF_ok hs hc2 hF' h
            refine ⟨s', max N N', fun M hM => ?_, h3⟩
            have h2 := h2 M (by omega)
            have ha := compOpd_ok hF ha
            simp only [exDraw, ho, h1 M (by omega), hk]
            cases d with
            | zero => exact absurd rfl hd0
            | succ d =>
              simp only [hb, ha]
              unfold sameB at hsame
              cases b with
              | false => exact h2
              | true =>
                simp only at hsame ⊢
                cases hl : loadT E t (opdV F a') H with
                | none => rw [hl] at hsame; cases hsame
                | some v =>
                  rw [hl] at hsame
                  simp only at hsame ⊢
                  rw [hsame]
                  exact h2
      · cases hc
    · cases hc
end
end Go.Proofs.YtfcfliclmjikkaaGreatDoor.Ex
