/- The fast twin: code, calls; what a run of it says. -/
import Derived.Test.YtfcfliclmjikkaaGreatDoorFf
namespace Go.Proofs.YtfcfliclmjikkaaGreatDoor.Ex
open Go
set_option linter.unusedVariables false
set_option linter.unusedSimpArgs false

section
variable {E : Env} {nt : Nat} {call : CallK} {cf : Nat → CallF}
theorem puts_ok : ∀ {ps : List Nat} {args : List AV} {F : NF} {G : Fr} {k : NF → Res} {r : Ext × AV × AH}, (∀ d ∈ ps, d < nt ∧ d < 512) → RF F G → putsK ps args F k = some r → ∃ G' F', putAllA nt G ps args = some G' ∧ RF F' G' ∧ k F' = some r
  | [], [], F, G, k, r, hd, hF, h => ⟨G, F, rfl, hF, h⟩
  | [], v :: vs, F, G, k, r, hd, hF, h => by cases h
  | p :: ps, [], F, G, k, r, hd, hF, h => by cases h
  | p :: ps, v :: vs, F, G, k, r, hd, hF, h => by
    change (slotOf p).set v F (fun F => putsK ps vs F k) = some r at h
    rw [slot_set] at h
    obtain ⟨h1, h2⟩ := hd p (List.mem_cons_self ..)
    obtain ⟨G', F', h3, h4⟩ := puts_ok (fun d hd' => hd d (List.mem_cons_of_mem _ hd')) (hF.set h2 v) h
    exact ⟨G', F', by rw [putAllA, if_pos h1]; exact h3, h4⟩
/-- How code's end goes on. -/
def goOn (e : Ext) (kn : KN) (ke : KE) (kr : KN) : KN := match e with
  | .normal => kn
  | .exit j => ke j
  | .ret => kr
theorem suc_fuel {P : Nat → Nat → Prop} {N : Nat} (hP : ∀ L n, N ≤ L → N ≤ n → P L (n + 1)) : ∃ N, ∀ L n, N ≤ L → N ≤ n → P L n := ⟨N + 1, fun L n h1 h2 => by
  obtain ⟨m, rfl⟩ : ∃ k, n = k + 1 := ⟨n - 1, by omega⟩
  exact hP L m (by omega) (by omega)⟩
theorem pre_ok (hs : Sim call cf) {ops : Array Oper} {pl : List (Nat × Nat)} {cc : CC} (hc : compPre E.ty nt ops pl = some cc) {L : Nat} {F : NF} {G : Fr} (hF : RF F G) {H : AH} {kn : KN} {ke : KE} {kr : KN} {r : Ext × AV × AH} (h : (semC nt cc).run ⟨E, call⟩ L F H kn ke kr = some r) :
    ∃ s N, (∀ L, N ≤ L → exDraw E (cf L) nt ops pl G H [H] .nil = some s) ∧ ∃ F', RF F' s.F ∧ kn F' s.H = some r := by
  unfold compPre at hc
  split at hc
  · rename_i l hl
    cases hb : (l.all fun o => !isDefer o.op) with
    | false => rw [hb] at hc; cases hc
    | true =>
      rw [hb] at hc
      simp only [cond_true, Option.map_eq_some_iff] at hc
      obtain ⟨cs, h1, h2⟩ := hc
      subst h2
      obtain ⟨s, N, h3, h4⟩ := opsF_ok hs h1 hF h
      exact ⟨s, N, fun L hL => draw_list hl hb (h3 L hL) _ _, h4⟩
  · simp only [Option.map_eq_some_iff] at hc
    obtain ⟨cs, h1, h2⟩ := hc
    subst h2
    change (semD cs).run ⟨E, call⟩ F H [H] .nil kn = some r at h
    exact drawF_ok hs h1 hF h
theorem addrC_ok {F : NF} {G : Fr} (hF : RF F G) {o : Op} {x : COpd} (h : addrC o = some x) {b i : Nat} (hx : opdV F x = .ptr b i) : blockOf G o = some b := by
  unfold addrC at h
  split at h
  · simp only [blockOf, compOpd_ok hF h, hx]
  · cases h
theorem tailF_ok (hs : Sim call cf) {ops : Array Oper} {p q t : Oper} {cc : CC} (hc : compTail E.ty nt ops p q t = some cc) {L : Nat} {F : NF} {G : Fr} (hF : RF F G) {H : AH} {kn : KN} {ke : KE} {kr : KN} {r : Ext × AV × AH} (h : (semC nt cc).run ⟨E, call⟩ L F H kn ke kr = some r) :
    ∃ s N, (∀ L, N ≤ L → exTail E (cf L) nt ops p q t G H = some s) ∧ ∃ F', RF F' s.F ∧ kn F' s.H = some r := by
  unfold compTail at hc
  split at hc
  · rename_i a b c x y ha hb hcc hx hy
    cases hc
    change (semOp a).run ⟨E, call⟩ F H (fun F1 H1 => (rdOf x).run F1 fun px => (rdOf y).run F1 fun py => px.ifPtr (fun i _ => py.ifPtr (fun j _ => iteK (Nat.beq i j) none ((semOp b).run ⟨E, call⟩ F1 H1 fun F2 H2 => (semOp c).run ⟨E, call⟩ F2 H2 kn)) none) none) = some r at h
    obtain ⟨s1, N1, h1, F1, hF1, h⟩ := opF_ok hs ha hF h
    rw [rd_eq, rd_eq] at h
    replace h := ifPtr_ok h
    rcases h with ⟨i, _, hpx, h⟩ | h
    · replace h := ifPtr_ok h
      rcases h with ⟨j, _, hpy, h⟩ | h
      · replace h := iteK_ok h
        rcases h with ⟨_, h⟩ | ⟨hij, h⟩
        · cases h
        · obtain ⟨s2, N2, h2, F2, hF2, h⟩ := opF_ok hs hb hF1 h
          obtain ⟨s3, N3, h3, F3, hF3, h⟩ := opF_ok hs hcc hF2 h
          refine ⟨s3, max N1 (max N2 N3), fun L hL => ?_, F3, hF3, h⟩
          unfold exTail
          rw [h1 L (by omega)]
          simp only [addrC_ok hF1 hx hpx, addrC_ok hF1 hy hpy, hij, h2 L (by omega), h3 L (by omega)]
      · cases h
    · cases h
  · cases hc
theorem code_ok (hs : Sim call cf) : ∀ (c : Code) {cc : CC}, compC E.ty nt c = some cc → ∀ {L : Nat} {F : NF} {G : Fr}, RF F G → ∀ {H : AH} {kn : KN} {ke : KE} {kr : KN} {r : Ext × AV × AH}, (semC nt cc).run ⟨E, call⟩ L F H kn ke kr = some r →
    ∃ e s, (∃ N, ∀ L n, N ≤ L → N ≤ n → exC E (cf L) nt n c G H = some (e, s)) ∧ ∃ F', RF F' s.F ∧ goOn e kn ke kr F' s.H = some r
  | .skip, cc, hc, L, F, G, hF, H, kn, ke, kr, r, h => by
    cases hc
    exact ⟨.normal, ⟨G, H⟩, suc_fuel (N := 0) fun L n _ _ => rfl, F, hF, h⟩
  | .region id ops draw, cc, hc, L, F, G, hF, H, kn, ke, kr, r, h => by
    have list : ∀ {l cs}, compOps E.ty nt ops l = some cs → cc = .reg cs → ∃ s N, (∀ L, N ≤ L → exList E (cf L) nt ops l G H = some s) ∧ ∃ F', RF F' s.F ∧ kn F' s.H = some r := by
      intro l cs h1 h2
      subst h2
      exact opsF_ok hs h1 hF h
    cases draw with
    | false =>
      simp only [compC, Option.map_eq_some_iff] at hc
      obtain ⟨cs, h1, h2⟩ := hc
      obtain ⟨s, N, h3, h4⟩ := list h1 h2.symm
      exact ⟨.normal, s, suc_fuel (N := N) fun L n h5 _ => by simp only [exC, exReg, h3 L h5], h4⟩
    | true =>
      simp only [compC] at hc
      have hc' := hc
      unfold compRegD at hc'
      split at hc'
      · rename_i pl hpl
        obtain ⟨s, N, h3, h4⟩ := pre_ok hs hc' hF h
        exact ⟨.normal, s, suc_fuel (N := N) fun L n h5 _ => by simp only [exC, exReg, hpl, h3 L h5], h4⟩
      · rename_i hpl
        split at hc'
        · rename_i pl p q r' hcut
          split at hc'
          · rename_i ca ct ha ht
            cases hc'
            change (semC nt ca).run ⟨E, call⟩ L F H (fun F H => (semC nt ct).run ⟨E, call⟩ L F H kn ke kr) ke kr = some r at h
            obtain ⟨s, N, h3, F', hF', h⟩ := pre_ok hs ha hF h
            obtain ⟨s', N', h4, h5⟩ := tailF_ok hs ht hF' h
            exact ⟨.normal, s', suc_fuel (N := max N N') fun L n h6 _ => by simp only [exC, exReg, hpl, hcut, h3 L (by omega), h4 L (by omega)], h5⟩
          · cases hc'
        · cases hc'
  | .seq a b, cc, hc, L, F, G, hF, H, kn, ke, kr, r, h => by
    simp only [compC] at hc
    split at hc
    · rename_i ca cb ha hb
      cases hc
      change (semC nt ca).run ⟨E, call⟩ L F H (fun F H => (semC nt cb).run ⟨E, call⟩ L F H kn ke kr) ke kr = some r at h
      obtain ⟨e, s, ⟨N, h1⟩, F', hF', h⟩ := code_ok hs a ha hF h
      cases e with
      | normal =>
        obtain ⟨e', s', ⟨N', h2⟩, h3⟩ := code_ok hs b hb hF' h
        exact ⟨e', s', suc_fuel (N := max N N') fun L n h4 h5 => by simp only [exC, h1 L n (by omega) (by omega)]; exact h2 L n (by omega) (by omega), h3⟩
      | exit j => exact ⟨.exit j, s, suc_fuel (N := N) fun L n h4 h5 => by simp only [exC, h1 L n h4 h5], F', hF', h⟩
      | ret => exact ⟨.ret, s, suc_fuel (N := N) fun L n h4 h5 => by simp only [exC, h1 L n h4 h5], F', hF', h⟩
    · cases hc
  | .cond b x y, cc, hc, L, F, G, hF, H, kn, ke, kr, r, h => by
    simp only [compC] at hc
    split at hc
    · rename_i b' cx cy hb hx hy
      cases hc
      change (rdOf b').run F (fun v => v.ifBool (fun t => iteK t ((semC nt cx).run ⟨E, call⟩ L F H kn ke kr) ((semC nt cy).run ⟨E, call⟩ L F H kn ke kr)) none) = some r at h
      rw [rd_eq] at h
      replace h := ifBool_ok h
      rcases h with ⟨t, ht, h⟩ | h
      · have hb := compOpd_ok hF hb
        rw [ht] at hb
        replace h := iteK_ok h
        rcases h with ⟨rfl, h⟩ | ⟨rfl, h⟩
        · obtain ⟨e, s, ⟨N, h1⟩, h2⟩ := code_ok hs x hx hF h
          exact ⟨e, s, suc_fuel (N := N) fun L n h4 h5 => by simp only [exC, hb]; exact h1 L n h4 h5, h2⟩
        · obtain ⟨e, s, ⟨N, h1⟩, h2⟩ := code_ok hs y hy hF h
          exact ⟨e, s, suc_fuel (N := N) fun L n h4 h5 => by simp only [exC, hb]; exact h1 L n h4 h5, h2⟩
      · cases h
    · cases hc
  | .block id x, cc, hc, L, F, G, hF, H, kn, ke, kr, r, h => by
    simp only [compC, Option.map_eq_some_iff] at hc
    obtain ⟨cx, hx, rfl⟩ := hc
    change (semC nt cx).run ⟨E, call⟩ L F H kn (fun j F H => iteK (Nat.beq j id) (kn F H) (ke j F H)) kr = some r at h
    obtain ⟨e, s, ⟨N, h1⟩, F', hF', h⟩ := code_ok hs x hx hF h
    cases e with
    | normal => exact ⟨.normal, s, suc_fuel (N := N) fun L n h4 h5 => by simp only [exC, h1 L n h4 h5], F', hF', h⟩
    | ret => exact ⟨.ret, s, suc_fuel (N := N) fun L n h4 h5 => by simp only [exC, h1 L n h4 h5], F', hF', h⟩
    | exit j =>
      replace h := iteK_ok h
      rcases h with ⟨hj, h⟩ | ⟨hj, h⟩
      · exact ⟨.normal, s, suc_fuel (N := N) fun L n h4 h5 => by simp only [exC, h1 L n h4 h5]; rw [if_pos (Nat.eq_of_beq_eq_true hj)], F', hF', h⟩
      · exact ⟨.exit j, s, suc_fuel (N := N) fun L n h4 h5 => by simp only [exC, h1 L n h4 h5]; rw [if_neg (Nat.ne_of_beq_eq_false hj)], F', hF', h⟩
  | .loop x, cc, hc, L, F, G, hF, H, kn, ke, kr, r, h => by
    simp only [compC, Option.map_eq_some_iff] at hc
    obtain ⟨cx, hx, rfl⟩ := hc
    let go : Nat → NF → AH → Res := fun m => @Nat.rec (fun _ => NF → AH → Res) (fun _ _ => none) (fun _ ih F H => (semC nt cx).run ⟨E, call⟩ L F H ih ke kr) m
    have key : ∀ (m : Nat) {F : NF} {G : Fr}, RF F G → ∀ {H : AH}, go m F H = some r → ∃ e s, (∃ N, ∀ L n, N ≤ L → N ≤ n → exC E (cf L) nt n (.loop x) G H = some (e, s)) ∧ ∃ F', RF F' s.F ∧ goOn e kn ke kr F' s.H = some r := by
      intro m
      induction m with
      | zero => intro F G hF H h; cases h
      | succ m ih =>
        intro F G hF H h
        change (semC nt cx).run ⟨E, call⟩ L F H (go m) ke kr = some r at h
        obtain ⟨e, s, ⟨N, h1⟩, F', hF', h⟩ := code_ok hs x hx hF h
        cases e with
        | normal =>
          obtain ⟨e', s', ⟨N', h2⟩, h3⟩ := ih hF' h
          exact ⟨e', s', suc_fuel (N := max N N') fun L n h4 h5 => by simp only [exC, h1 L n (by omega) (by omega)]; exact h2 L n (by omega) (by omega), h3⟩
        | exit j => exact ⟨.exit j, s, suc_fuel (N := N) fun L n h4 h5 => by simp only [exC, h1 L n h4 h5], F', hF', h⟩
        | ret => exact ⟨.ret, s, suc_fuel (N := N) fun L n h4 h5 => by simp only [exC, h1 L n h4 h5], F', hF', h⟩
    exact key L hF h
  | .rangeFunc g ps a b, cc, hc, L, F, G, hF, H, kn, ke, kr, r, h => by
    simp only [compC] at hc
    cases hb : (noRange a && noRange b && ps.toList.all (fun d => Nat.blt d 512 && Nat.blt d nt)) with
    | false => rw [hb] at hc; cases hc
    | true =>
      rw [hb] at hc
      simp only [cond_true] at hc
      rw [Bool.and_eq_true] at hb
      obtain ⟨hb1, hb2⟩ := hb
      split at hc
      · rename_i g' ca cb hg ha hbb
        cases hc
        change (rdOf g').run F (fun v => v.ifFunc (fun gf first cap => @List.rec AV (fun _ => Res) (outK (iterA E (directF call) (roundK (semC nt ca).run (semC nt cb).run ps.toList ⟨E, call⟩ L F) L gf cap H) F kn ke kr) (fun _ _ _ => none) first) none) = some r at h
        rw [rd_eq] at h
        replace h := ifFunc_ok h
        rcases h with ⟨gf, first, cap, hv, h⟩ | h
        · cases first with
          | cons x l => cases h
          | nil =>
            change (optK (iterA E (directF call) (roundK (semC nt ca).run (semC nt cb).run ps.toList ⟨E, call⟩ L F) L gf cap H) fun p => @Prod.rec Ext AH (fun _ => Res) (fun e H => @Ext.rec (fun _ => Res) (kn F H) (fun j => ke j F H) (kr F H) e) p) = some r at h
            obtain ⟨⟨e, H'⟩, hi, h⟩ := optK_ok h
            have hg := compOpd_ok hF hg
            rw [hv] at hg
            have hps : ∀ d ∈ ps.toList, d < nt ∧ d < 512 := fun d hd => by
              have := List.all_eq_true.1 hb2 d hd
              rw [Bool.and_eq_true] at this
              exact ⟨blt_lt this.2, blt_lt this.1⟩
            have hround : WeakR (roundK (semC nt ca).run (semC nt cb).run ps.toList ⟨E, call⟩ L F) (fun L n => roundA (exC E (cf L) nt n) nt G ps.toList a b) := by
              intro args H1 q hq
              unfold roundK at hq
              split at hq
              · rename_i e1 v1 H2 hk
                cases hq
                obtain ⟨G1, F1, h1, hF1, hk⟩ := puts_ok hps hF hk
                obtain ⟨e2, s2, ⟨N2, h2⟩, F2, hF2, hk⟩ := code_ok hs a ha hF1 hk
                cases e2 with
                | exit j => cases hk
                | ret => cases hk
                | normal =>
                  obtain ⟨e3, s3, ⟨N3, h3⟩, F3, hF3, hk⟩ := code_ok hs b hbb hF2 hk
                  refine ⟨max N2 N3, fun L n h4 h5 => ?_⟩
                  simp only [roundA, h1, h2 L n (by omega) (by omega), h3 L n (by omega) (by omega)]
                  cases e3 <;> cases hk <;> rfl
              · cases hq
            obtain ⟨N, hN⟩ := iter_mono (direct_weak hs) hround hi
            have hex : ∃ N, ∀ L n, N ≤ L → N ≤ n → exC E (cf L) nt n (.rangeFunc g ps a b) G H = some (e, ⟨G, H'⟩) := suc_fuel (N := N) fun L n h4 h5 => by
              simp only [exC, hb1, hg, hN L n h4 h5]
            refine ⟨e, ⟨G, H'⟩, hex, F, hF, ?_⟩
            cases e <;> exact h
        · cases h
      · cases hc
  | .exit id, cc, hc, L, F, G, hF, H, kn, ke, kr, r, h => by
    cases hc
    exact ⟨.exit id, ⟨G, H⟩, suc_fuel (N := 0) fun L n _ _ => rfl, F, hF, h⟩
  | .scope x, cc, hc, L, F, G, hF, H, kn, ke, kr, r, h => by
    simp only [compC] at hc
    obtain ⟨e, s, ⟨N, h1⟩, h2⟩ := code_ok hs x hc hF h
    exact ⟨e, s, suc_fuel (N := N) fun L n h4 h5 => by simp only [exC]; exact h1 L n h4 h5, h2⟩
  | .label l, cc, hc, L, F, G, hF, H, kn, ke, kr, r, h => by
    cases hc
    exact ⟨.normal, ⟨G, H⟩, suc_fuel (N := 0) fun L n _ _ => rfl, F, hF, h⟩
  | .ret, cc, hc, L, F, G, hF, H, kn, ke, kr, r, h => by
    cases hc
    exact ⟨.ret, ⟨G, H⟩, suc_fuel (N := 0) fun L n _ _ => rfl, F, hF, h⟩
  | .goto l, cc, hc, L, F, G, hF, H, kn, ke, kr, r, h => by simp [compC] at hc
  | .refuse w, cc, hc, L, F, G, hF, H, kn, ke, kr, r, h => by simp [compC] at hc

/-! ### Calls -/
theorem res_ok : ∀ {l : List ResultVar} {cs : List CRes}, compRes l = some cs → ∀ {F : NF} {G : Fr}, RF F G → ∀ {H : AH} {k : List AV → Res} {r : Ext × AV × AH}, (resOf cs).run ⟨E, call⟩ F H k = some r → ∃ vs, resultsA E G H l = some vs ∧ k vs = some r
  | [], cs, hc, F, G, hF, H, k, r, h => by cases hc; exact ⟨[], rfl, h⟩
  | .tmp t :: l, cs, hc, F, G, hF, H, k, r, h => by
    simp only [compRes] at hc
    split at hc
    · rename_i cs' hl
      cases hb : Nat.blt t 512 with
      | false => rw [hb] at hc; cases hc
      | true =>
        rw [hb] at hc
        cases hc
        change (slotOf t).get F (fun v => (resOf cs').run ⟨E, call⟩ F H fun l => k (v :: l)) = some r at h
        rw [slot_get] at h
        obtain ⟨vs, h1, h2⟩ := res_ok hl hF h
        exact ⟨look F t :: vs, by simp only [resultsA, h1]; rw [hF t (blt_lt hb)], h2⟩
    · cases hc
  | .cell a t :: l, cs, hc, F, G, hF, H, k, r, h => by
    simp only [compRes] at hc
    split at hc
    · rename_i cs' hl
      cases hb : Nat.blt a 512 with
      | false => rw [hb] at hc; cases hc
      | true =>
        rw [hb] at hc
        cases hc
        change (slotOf a).get F (fun p => p.ifPtr (fun b o => optK (loadT E t (.ptr b o) H) fun v => (resOf cs').run ⟨E, call⟩ F H fun l => k (v :: l)) none) = some r at h
        rw [slot_get] at h
        replace h := ifPtr_ok h
        rcases h with ⟨b, o, hp, h⟩ | h
        · obtain ⟨v, hv, h⟩ := optK_ok h
          obtain ⟨vs, h1, h2⟩ := res_ok hl hF h
          exact ⟨_, by simp only [resultsA, ← hF a (blt_lt hb), hp, hv, h1], h2⟩
        · cases h
    · cases hc
theorem oneK_eq (l : List AV) (k : KA) : oneK l k = k (oneOr l) := by
  rcases l with _ | ⟨v, _ | ⟨w, l⟩⟩ <;> rfl
theorem enter_ok : ∀ (l : List AV) (i : Nat) {F : NF} {G : Fr} {k : NF → Res} {r : Ext × AV × AH}, i + l.length ≤ 512 → RF F G → enterK l i F k = some r → ∃ F', RF F' (G.put i l) ∧ k F' = some r
  | [], i, F, G, k, r, hi, hF, h => ⟨F, hF, h⟩
  | x :: l, i, F, G, k, r, hi, hF, h => by
    change (slotOf i).set x F (fun F => enterK l (Nat.succ i) F k) = some r at h
    rw [slot_set] at h
    rw [List.length_cons] at hi
    obtain ⟨F', h1, h2⟩ := enter_ok l (i + 1) (by omega) (hF.set (by omega) x) h
    exact ⟨F', h1, h2⟩
theorem look_e3 (t : Nat) : look e3 t = .tup [] := by
  show (((N8.all (N8.all (N8.all (AV.tup [])))).sel _).sel _).sel _ = _
  rw [N8.sel_all, N8.sel_all, N8.sel_all]
theorem rf_nil : RF e3 (Tr.nil : Fr) := fun t _ => by
  rw [look_e3, tmpA, Tr.get_nil]
theorem fast_ok (hk : ∀ {f : FuncId} {i : FI}, E.fn.get f = some i → ∀ args H, E.hook f args H = none) (L0 : Nat) : ∀ n, Sim (fastF E.ty E.fn E L0 n) (fun L => exF E L n)
  | 0 => fun f args H k r h => by cases h
  | n + 1 => fun f args H k r h => by
    have ih := fast_ok hk L0 n
    change (fnOf E.ty E.fn f).run ⟨E, fastF E.ty E.fn E L0 n⟩ L0 args H k = some r at h
    unfold fnOf at h
    cases hf : E.fn.get f with
    | none =>
      rw [hf] at h
      change optK (E.hook f args H) (fun p => k p.1 p.2) = some r at h
      obtain ⟨⟨v, H'⟩, h1, h⟩ := optK_ok h
      exact ⟨v, H', 0, fun L _ => by simp only [exF, h1], h⟩
    | some i =>
      rw [hf] at h
      simp only at h
      have hno := hk hf args H
      cases hc : compFn E.ty i with
      | none => rw [hc] at h; cases h
      | some c =>
        rw [hc] at h
        simp only at h
        unfold compFn at hc
        cases hb : Nat.ble i.ntmps 512 with
        | false => rw [hb] at hc; cases hc
        | true =>
          rw [hb] at hc
          simp only [cond_true] at hc
          split at hc
          · rename_i b cr hcb hcr
            cases hc
            change iteK (Nat.ble args.length i.ntmps) (enterK args 0 e3 fun F => (semC i.ntmps b).run ⟨E, fastF E.ty E.fn E L0 n⟩ L0 F H (fun F H => (resOf cr).run ⟨E, fastF E.ty E.fn E L0 n⟩ F H fun l => oneK l fun v => k v H) (fun _ _ _ => none) (fun F H => (resOf cr).run ⟨E, fastF E.ty E.fn E L0 n⟩ F H fun l => oneK l fun v => k v H)) none = some r at h
            obtain ⟨hlen, h⟩ := iteK_one h
            rw [Nat.ble_eq] at hlen hb
            obtain ⟨F, hF, h⟩ := enter_ok args 0 (by omega) rf_nil h
            obtain ⟨e, s, ⟨N, h1⟩, F', hF', h⟩ := code_ok ih i.body hcb hF h
            have fin : (resOf cr).run ⟨E, fastF E.ty E.fn E L0 n⟩ F' s.H (fun l => oneK l fun v => k v s.H) = some r → e ≠ .exit 0 → (∀ j, e ≠ .exit j) → ∃ v H' N, (∀ L, N ≤ L → exF E L (n + 1) f args H = some (v, H')) ∧ k v H' = some r := by
              intro h _ hne
              obtain ⟨vs, h2, h⟩ := res_ok hcr hF' h
              rw [oneK_eq] at h
              refine ⟨oneOr vs, s.H, N, fun L hL => ?_, h⟩
              simp only [exF, hno, hf]
              rw [if_neg (by omega), h1 L L hL hL]
              cases e with
              | exit j => exact absurd rfl (hne j)
              | normal => simp only [h2]
              | ret => simp only [h2]
            cases e with
            | exit j => cases h
            | normal => exact fin h (by simp) (by simp)
            | ret => exact fin h (by simp) (by simp)
          · cases hc
end

/-- Who has code has no other answer. -/
theorem hookX_fn {E : Env} {ib : FuncId} (h : E.hook = hookX ib) (hn : E.fn.get ib = none) {f : FuncId} {i : FI} (hf : E.fn.get f = some i) (args : List AV) (H : AH) : E.hook f args H = none := by
  rw [h]
  unfold hookX
  cases hq : Nat.beq f ib with
  | false => rfl
  | true =>
    rw [Nat.eq_of_beq_eq_true hq, hn] at hf
    cases hf
/-- A law that the fast twin finds true. -/
theorem fast_law {E : Env} (ok : TyOk E) (fok : FnOk E) (hk : HookOk E) (hkn : HookNum E) (hkf : ∀ {f : FuncId} {i : FI}, E.fn.get f = some i → ∀ args H, E.hook f args H = none) (hm : E.P.follows .mixedOrders = true) {L n : Nat} {f : FuncId} {fn : Func} (hf : E.P.funcs[f]? = some fn) (hb : fn.body.isSome = true) (hnm : (fn.name == "runtime.NumGoroutine") = false) {args : List AV}
    (h : fastB E.ty E.fn E L n f args = true)
    {γ : Cx} (hγ : ∀ i, γ.loc i = none) (hsym : ∀ {i : Nat} {lo hi : Int}, E.syms.get i = some (lo, hi) → lo ≤ γ.sym i ∧ γ.sym i ≤ hi) {args' : List Value} (hargs : VRs γ args args') {w : World}
    (hglob : ∀ {g : Nat} {v : AV}, E.globs.get g = some v → g < w.heap.size ∧ ∃ rv, w.cell? ⟨g, 0, none⟩ = some rv ∧ VR γ v rv) :
    Calls E.P f args'.toArray w fun e w' => e = .returned (.bool true) ∧ RowKit.Below w.heap.size w w' := by
  unfold fastB at h
  split at h
  · rename_i e b H' he
    subst h
    obtain ⟨v, H1, N, h1, h2⟩ := fast_ok hkf L n f args ⟨0, .nil⟩ _ _ he
    simp only [Option.some.injEq, Prod.mk.injEq] at h2
    obtain ⟨-, rfl, rfl⟩ := h2
    refine law_true (L := N) (n := n) ok fok @hk @hkn hm hf hb hnm (args := args) ?_ hγ hsym hargs hglob
    have h1 := h1 N (Nat.le_refl _)
    dsimp only at h1
    rw [h1]
  · cases h
end Go.Proofs.YtfcfliclmjikkaaGreatDoor.Ex
