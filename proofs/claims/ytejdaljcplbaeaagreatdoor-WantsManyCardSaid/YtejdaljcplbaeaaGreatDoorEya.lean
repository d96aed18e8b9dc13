/- The plain runner: a region whose order is open does as the runner does, in every order. -/
import Derived.Test.YtejdaljcplbaeaaGreatDoorExz
namespace Go.Proofs.YtejdaljcplbaeaaGreatDoor.Ex
open Go
set_option linter.unusedVariables false
set_option linter.unusedSimpArgs false

theorem fin_any {call : CallF} {nt : Nat} {F : Fr} {d : Option Tmp} {r : R} {s : St} (h : finA call nt F d r = some s) (G : Fr) : ∃ G', finA call nt G d r = some ⟨G', s.H⟩ ∧ ∀ t, tmpA G' t = if d = some t then tmpA s.F t else tmpA G t := by
  have key : ∀ {v : AV} {F' : Fr}, putA nt F d v = some F' → ∃ G', putA nt G d v = some G' ∧ ∀ t, tmpA G' t = if d = some t then tmpA F' t else tmpA G t := fun {v F'} hp => by
    obtain ⟨G', hG⟩ := put_any hp G
    refine ⟨G', hG, fun t => ?_⟩
    rw [put_frame hG t, put_frame hp t]
    by_cases q : d = some t
    · rw [if_pos q, if_pos q, if_pos q]
    · rw [if_neg q, if_neg q]
  unfold finA at h ⊢
  cases r with
  | val v H' =>
    simp only at h ⊢
    split at h
    · rename_i F' hp
      simp only [Option.some.injEq] at h; subst h
      obtain ⟨G', a, b⟩ := key hp
      rw [a]; exact ⟨G', rfl, b⟩
    · cases h
  | skip H' =>
    simp only at h ⊢
    split at h
    · rename_i F' hp
      simp only [Option.some.injEq] at h; subst h
      obtain ⟨G', a, b⟩ := key hp
      rw [a]; exact ⟨G', rfl, b⟩
    · cases h
  | call f args H' =>
    simp only at h ⊢
    split at h
    · split at h
      · rename_i F' hp
        simp only [Option.some.injEq] at h; subst h
        obtain ⟨G', a, b⟩ := key hp
        rw [a]; exact ⟨G', rfl, b⟩
      · cases h
    · cases h
theorem fin_val {call : CallF} {nt : Nat} {F : Fr} {d : Option Tmp} {v : AV} {H : AH} {s : St} (h : finA call nt F d (.val v H) = some s) : s.H = H ∧ ∀ H', finA call nt F d (.val v H') = some ⟨s.F, H'⟩ := by
  unfold finA at h ⊢
  simp only at h ⊢
  split at h
  · simp only [Option.some.injEq] at h; subst h; exact ⟨rfl, fun _ => rfl⟩
  · cases h

theorem loadT_ptr {E : Env} {t : TypeId} {b o : Nat} {H H' : AH} (h : H.bs.get b = H'.bs.get b) : loadT E t (.ptr b o) H = loadT E t (.ptr b o) H' := by
  have h1 : ∀ n, loadA H b o n = loadA H' b o n := fun n => by unfold loadA; rw [h]
  unfold loadT
  simp only [h1]
theorem loadT_has {E : Env} {t : TypeId} {b o : Nat} {H : AH} {v : AV} (h : loadT E t (.ptr b o) H = some v) : ∃ k, H.bs.get b = some k := by
  cases hb : H.bs.get b with
  | some k => exact ⟨k, rfl⟩
  | none =>
    have h1 : ∀ n, loadA H b o n = none := fun n => by unfold loadA; rw [hb]
    unfold loadT at h
    simp only [h1] at h
    split at h
    · cases h
    · split at h <;> simp at h
theorem wasSo_mem {E : Env} {t : TypeId} {p v : AV} {ini : Tr Blk} : ∀ {l : List AH}, wasSo E t p v ini l = true → ∀ {h : AH}, h ∈ l → (match (match p with
    | .ptr b _ => (match h.bs.get b with
      | some _ => loadT E t p h
      | none => if h.n ≤ b then loadT E t p ⟨0, ini⟩ else none)
    | _ => loadT E t p h) with
    | some u => eqAV u v
    | none => false) = true
  | [], _, h, hm => by simp at hm
  | x :: l, hw, h, hm => by
    unfold wasSo at hw
    rw [Bool.and_eq_true] at hw
    rcases List.mem_cons.1 hm with q | q
    · subst q; exact hw.1
    · exact wasSo_mem hw.2 q
theorem mem_past {α : Type} {q r : List α} {h : α} {d : Nat} (h1 : q ≠ []) (h2 : q.length ≤ d) : h ∈ (q ++ h :: r).tail.take d := by
  cases q with
  | nil => exact absurd rfl h1
  | cons x q =>
    simp only [List.cons_append, List.tail_cons]
    simp only [List.length_cons] at h2
    refine List.mem_take_iff_getElem.2 ⟨q.length, by simp; omega, by simp⟩

section
variable {E : Env} {call : CallF} {nt : Nat} {ops : Array Oper} {log : List Ent} {x0 y0 : DS} {γ0 : Cx} {w0 : World} {N B : Nat} {ρ : Option Nat}
variable {pre suf : List Ent} {xp : DS} {γ : Cx} {FD : Fr} {HD : HM} {D : Nat → Prop} {a : Act} {w : World}
variable (inv : Inv E call nt ops log x0 y0 γ0 w0 N B pre suf xp γ FD HD D a w) (lk : LogOk E.ty ops log)
include inv lk

/-- What a read sees now is what it saw in the runner's own order. -/
theorem Inv.seen (hnum : NumOk call) (hini : x0.ini = .nil) {mid rest : List Ent} {e : Ent} (hs : suf = mid ++ e :: rest) {o : Oper} (hg : Good E call nt ops e o) (hr : ∀ p ∈ edgesOf o, D p) (hn : ¬ D e.i)
    {t : TypeId} {x : Operand} (hk : okOf E.ty o.op = .load t x) (hw : wantedA ops e.st.F o = some true) {b off : Nat} {l : Nat × Nat × Nat} (hp : opA e.st.F x = some (.ptr b off)) (hl : γ.loc b = some l) {v : AV} (hv : loadT E t (.ptr b off) e.st.H = some v) :
    ∃ k, HD b = some k ∧ ∃ H : AH, H.bs.get b = some k ∧ loadT E t (.ptr b off) H = some v := by
  have hlog : log = (pre ++ mid) ++ e :: rest := by rw [inv.eq, hs, List.append_assoc]
  have hr2 := inv.run2
  rw [hs] at hr2
  obtain ⟨r1, r2⟩ := mid_ids hnum hr2 hg
  have n0 : x0.H.n ≤ xp.H.n := run_num hnum inv.run1
  have n1 : xp.H.n ≤ e.st.H.n := run_num hnum r1
  have n3 : e.st.H.n ≤ e.s.H.n := exOne_num hnum hg.run
  have n2 : e.s.H.n ≤ y0.H.n := run_num hnum r2
  have hrun : Run E call nt ops log x0 y0 := by rw [inv.eq]; exact inv.run1.join inv.run2
  have hsub : ∀ e' ∈ mid, e' ∈ suf := fun e' he' => by rw [hs]; simp [he']
  have fromXp : ∀ {k}, xp.H.bs.get b = some k → HD b = some k := fun {k} q => by
    rw [inv.hd2 b (fun e' he' _ k' hk' => ?_)]
    · exact q
    · have h3 := run_ids hnum inv.run2 e' he' b k' hk'
      rw [inv.free b h3.1 h3.2] at q; cases q
  have pending : xp.H.n ≤ b → b < y0.H.n → ∃ e' ∈ suf, ∃ k, newOf E.ty ops e' = some (b, k) ∧ HD b = some k := fun q1 q2 => by
    rcases inv.name b l (by omega) q2 hl with q | ⟨e', he', hD, k, hk'⟩
    · omega
    · exact ⟨e', he', k, hk', inv.hd1 e' he' hD b k hk'⟩
  by_cases hq : ∀ e' ∈ mid, spineE E.ty ops e' = false
  · obtain ⟨k, hbk⟩ := loadT_has hv
    obtain ⟨q1, q2⟩ := run_quiet hnum r1 hq b
    by_cases hex : ∃ e' ∈ mid, ∃ k, newOf E.ty ops e' = some (b, k)
    · obtain ⟨e', he', k', hk'⟩ := hex
      have h3 := run_ids hnum r1 e' he' b k' hk'
      obtain ⟨e2, he2, k2, hk2, hD2⟩ := pending h3.1 (by omega)
      have e3 := q1 e' he' k' hk'
      rw [hbk] at e3
      simp only [Option.some.injEq] at e3
      have e4 := run_once hnum inv.run2 e2 he2 e' (hsub e' he') b k2 k' hk2 hk'
      exact ⟨k2, hD2, e.st.H, by rw [hbk, e3, e4], hv⟩
    · have e3 := q2 (fun e' he' k' hk' => hex ⟨e', he', k', hk'⟩)
      rw [hbk] at e3
      exact ⟨k, fromXp e3.symm, e.st.H, hbk, hv⟩
  · have hnot : ∀ c ∈ spI E.ty ops mid, Nat.testBit ((masks ops.toList []).getD e.i 0) c = false := fun c hc => by
      obtain ⟨e', he', hi, hsp⟩ := spI_mem E.ty ops hc
      cases hb : Nat.testBit ((masks ops.toList []).getD e.i 0) c with
      | false => rfl
      | true =>
        have hDc : D c := inv.ready_anc hg.op hr hb
        rw [← hi] at hDc
        rw [inv.quiet e' (hsub e' he') hDc] at hsp; cases hsp
    have hage : (spR E.ty ops mid).length ≤ e.d := by
      rw [lk.age _ e rest hlog, spI_append, ← spI_len]
      exact ageOf_le _ _ _ hnot
    have hne : spR E.ty ops mid ≠ [] := by
      intro q
      apply hq
      intro e' he'
      cases hsp : spineE E.ty ops e' with
      | false => rfl
      | true =>
        exfalso
        have : spI E.ty ops mid = [] := List.eq_nil_of_length_eq_zero (by rw [spI_len, q]; rfl)
        obtain ⟨m1, m2, rfl⟩ := List.append_of_mem he'
        rw [spI_append] at this
        simp [spI, hsp] at this
    have hd : e.d ≠ 0 := by
      intro q
      rw [q] at hage
      exact hne (List.eq_nil_of_length_eq_zero (by omega))
    obtain ⟨p', v', g1, g2, g3⟩ := hg.ld t x hk hd hw
    rw [hp] at g1
    simp only [Option.some.injEq] at g1
    subst g1
    rw [hv] at g2
    simp only [Option.some.injEq] at g2
    subst g2
    obtain ⟨tl, htl⟩ : ∃ tl, xp.past = xp.H :: tl := by
      have := inv.head
      cases hpp : xp.past with
      | nil => rw [hpp] at this; simp at this
      | cons x tl => rw [hpp] at this; simp at this; exact ⟨tl, by rw [this]⟩
    have hmem : xp.H ∈ e.st.past.tail.take e.d := by
      rw [run_past r1, htl]
      exact mem_past hne hage
    have hso := wasSo_mem g3 hmem
    simp only at hso
    cases hxb : xp.H.bs.get b with
    | some k =>
      rw [hxb] at hso
      simp only at hso
      split at hso
      · rename_i u hu
        have := eqAV_ok _ _ hso
        subst this
        exact ⟨k, fromXp hxb, xp.H, hxb, hu⟩
      · cases hso
    | none =>
      rw [hxb] at hso
      simp only at hso
      split at hso
      · rename_i u hu
        have := eqAV_ok _ _ hso
        subst this
        split at hu
        · rename_i hle
          obtain ⟨k, hbk⟩ := loadT_has hu
          have hrun1 : Run E call nt ops (pre ++ mid) x0 e.st := inv.run1.join r1
          rcases run_ini hrun1 b k hbk with q | ⟨e', he', hk'⟩
          · rw [hini, Tr.get_nil] at q; cases q
          · have he'l : e' ∈ log := by rw [hlog]; exact List.mem_append_left _ he'
            have h3 := run_ids hnum hrun e' he'l b k hk'
            obtain ⟨e2, he2, k2, hk2, hD2⟩ := pending hle h3.2
            have e4 := run_once hnum hrun e2 (by rw [inv.eq]; exact List.mem_append_right _ he2) e' he'l b k2 k hk2 hk'
            exact ⟨k2, hD2, ⟨0, e.st.ini⟩, by rw [e4]; exact hbk, hu⟩
        · cases hu
      · cases hso

/-- One step, whichever it is. -/
theorem Inv.step (hcall : CallOk E call) (hnum : NumOk call) (ok : TyOk E) (hini : x0.ini = .nil) (hfree0 : ∀ id, x0.H.n ≤ id → id < y0.H.n → γ0.loc id = none) {Q : Exit → Act → World → Prop} {K : Act → World → Prop} {e : Ent} (hel : e ∈ log) {o : Oper} (ho : ops[e.i]? = some o) (hr : ∀ p ∈ edgesOf o, D p) (hn : ¬ D e.i)
    (hK : ∀ pre' suf' xp' γ' FD' HD' a' w', Inv E call nt ops log x0 y0 γ0 w0 N B pre' suf' xp' γ' FD' HD' (fun j => D j ∨ j = e.i) a' w' → K a' w') : wpOpIn (rd ρ) 0 E.P ops Q e.i K a w := by
  have hes : e ∈ suf := by
    rw [inv.eq] at hel
    rcases List.mem_append.1 hel with q | q
    · exact absurd (inv.done e q) hn
    · exact q
  obtain ⟨mid, rest, hs⟩ := List.append_of_mem hes
  have hr2 := inv.run2
  rw [hs] at hr2
  obtain ⟨z, r1, hz, o', hg, r2⟩ := Run.append hr2
  subst hz
  have : o' = o := by
    have := hg.op.symm.trans ho
    simpa using this
  subst this
  have n0 : x0.H.n ≤ xp.H.n := run_num hnum inv.run1
  have n1 : xp.H.n ≤ e.st.H.n := run_num hnum r1
  have n3 : e.st.H.n ≤ e.s.H.n := exOne_num hnum hg.run
  have n2 : e.s.H.n ≤ y0.H.n := run_num hnum r2
  have hrd := inv.reads lk hs hg hr hn
  unfold allReads at hrd
  have hwr := wantedA_reads (ops := ops) (o := o') hrd.left
  have hxr := fun H => exOp_reads (E := E) (o := o'.op) hrd.right H
  -- names that the step may give are free
  have hfr : ∀ id, e.st.H.n ≤ id → id < e.s.H.n → γ.loc id = none := fun id h1 h2 => by
    cases hl : γ.loc id with
    | none => rfl
    | some l =>
      rcases inv.name id l (by omega) (by omega) hl with q | ⟨e', he', hD, k, hk⟩
      · omega
      · rw [hs] at he'
        rcases List.mem_append.1 he' with m | m
        · have := run_ids hnum r1 e' m id k hk; omega
        · rcases List.mem_cons.1 m with m | m
          · subst m; exact absurd hD hn
          · have := run_ids hnum r2 e' m id k hk
            have e1 : (e.after E.ty ops o').H.n = e.s.H.n := rfl
            omega
  have hrun := hg.run
  unfold exOne at hrun
  unfold wpOpIn
  rw [ho]
  simp only
  cases hw : wantedA ops e.st.F o' with
  | none => rw [hw] at hrun; simp at hrun
  | some b =>
    have hwf := wanted_ok (a := a) (γ := γ) inv.sr.fr (hwr.trans hw)
    rw [hw] at hrun
    rw [hwf]
    cases b with
    | false =>
      simp only at hrun
      rw [if_neg (by simp)]
      refine ⟨fun _ _ => trivial, ?_⟩
      split at hrun
      · rename_i F' hp
        simp only [Option.some.injEq] at hrun
        obtain ⟨FD', hFD⟩ := put_any hp FD
        have e1 : e.s.H = e.st.H := by rw [← hrun]
        have e2 : e.s.F = F' := by rw [← hrun]
        have hF : ∀ t, tmpA FD' t = if o'.dst = some t then tmpA e.s.F t else tmpA FD t := fun t => by
          rw [e2, put_frame hFD t, put_frame hp t]
          by_cases q : o'.dst = some t
          · rw [if_pos q, if_pos q, if_pos q]
          · rw [if_neg q, if_neg q]
        cases hsp : isSpine E.ty o' with
        | false =>
          have hq : newOf E.ty ops e = none := by
            unfold newOf
            rw [hg.op]
            simp only [hw]
            cases okOf E.ty o'.op <;> rfl
          refine hK _ _ _ _ _ _ _ _ (inv.quietly lk hnum hs hg hsp hr hn hF (γ' := γ) (HD' := HD) ⟨inv.sr.rel, put_ok inv.sr.fr undef_ok hFD inv.sr.size, inv.sr.low, by rw [put_size]; exact inv.sr.size, inv.sr.defs.next (.refl _ _ _ 0) (put_defers _ _)⟩ ?_ (.inl ⟨hq, rfl⟩))
          rw [e1]
          exact .refl _ _ _ _
        | true =>
          have hmid : ∀ e' ∈ mid, D e'.i := fun e' he' => by
            obtain ⟨⟨o2, ho2, _, h3⟩, _⟩ := lk.split (pre ++ mid) e rest (by rw [inv.eq, hs, List.append_assoc])
            rw [ho] at ho2
            simp only [Option.some.injEq] at ho2
            subst ho2
            exact inv.ready_anc ho hr (h3 hsp e' (by simp [he']))
          obtain ⟨HD', hi⟩ := inv.acts lk hnum hs hg hsp hr hn hF (γ' := γ) (a' := a.put o'.dst undef) (w' := w) ⟨by rw [e1]; exact inv.sr.rel.less (inv.ahead hnum hs hg hmid).1, put_ok inv.sr.fr undef_ok hFD inv.sr.size, inv.sr.low, by rw [put_size]; exact inv.sr.size, by rw [e1]; exact (inv.sr.defs.less (inv.ahead hnum hs hg hmid).1).next (.refl _ _ _ 0) (put_defers _ _)⟩ (by rw [e1]; exact .refl _ _ _ _) (put_defers _ _)
          exact hK _ _ _ _ _ _ _ _ hi
      · cases hrun
    | true =>
      simp only at hrun
      rw [if_pos rfl]
      split at hrun
      · rename_i r hx
        -- a step that leaves memory alone, off a part of it
        have alone : ∀ {v : AV} {Hs : AH}, isSpine E.ty o' = false → newOf E.ty ops e = none → e.s.H = e.st.H → finA call nt e.st.F o'.dst (.val v e.st.H) = some e.s → (∀ id k, Hs.bs.get id = some k → HD id = some k) → exOp E FD o'.op Hs = some (.val v Hs) → Hs.n = e.st.H.n → o'.wpIn (rd ρ) 0 E.P a w K Q := fun {v Hs} hsp hq e1 hfin hless hxs hnn => by
          obtain ⟨_, hfv⟩ := fin_val hfin
          obtain ⟨FD', hfd, hF⟩ := fin_any (hfv Hs) FD
          have hsrs : SR E γ N B nt FD Hs.bs.get a w := ⟨inv.sr.rel.less hless, inv.sr.fr, inv.sr.low, inv.sr.size, inv.sr.defs.less hless⟩
          refine wp_of_fin hcall ok hsrs hxs hfd (fun id h1 h2 => ?_) (fun γ' v0 v' w' hv hp hrel hnx => ?_)
          · simp only at h2; omega
          · simp only at hp hrel hnx
            have hf := rel_frame (HD' := HD) inv.sr.rel hless hrel hnx (fun id k hk => by
              cases hb : Hs.bs.get id with
              | none => exact .inr ⟨rfl, hk⟩
              | some k' => left; rw [← hk, hless id k' hb])
            refine hK _ _ _ _ _ _ _ _ (inv.quietly lk hnum hs hg hsp hr hn hF ⟨hf.1, put_ok (inv.sr.fr.mono hnx.le) hv hp inv.sr.size, Nat.le_trans inv.sr.low hnx.size, by rw [put_size]; exact inv.sr.size, inv.sr.defs.next hf.2 (put_defers _ _)⟩ ?_ (.inl ⟨hq, rfl⟩))
            rw [e1, ← hnn]
            exact hf.2
        have noNew : okOf E.ty o'.op ≠ .alloc → newOf E.ty ops e = none := fun hk => by
          unfold newOf
          rw [hg.op]
          cases hq : okOf E.ty o'.op <;> simp_all
        cases hk : okOf E.ty o'.op with
        | pure =>
          obtain ⟨v, rfl, hall⟩ := pure_kind hk hx
          refine alone (v := v) (Hs := ⟨e.st.H.n, .nil⟩) (by unfold isSpine; rw [hk]) (noNew (by rw [hk]; simp)) (fin_val hrun).1 hrun (fun id k hb => by rw [Tr.get_nil] at hb; cases hb) ?_ rfl
          rw [hxr]
          exact hall _
        | load t x =>
          have hop := load_kind hk
          have hx' := hx
          rw [hop] at hx'
          simp only [exOp, loadX] at hx'
          split at hx'
          · rename_i p hp
            obtain ⟨v, hv, rfl⟩ := vR_some hx'
            have hpd : opA FD x = some p := by
              rw [← hp]
              refine opA_reads (fun u hu => hrd.right u ?_)
              rw [hop]
              exact hu
            have hpr := opA_ok inv.sr.fr hpd
            have hsp : isSpine E.ty o' = false := by unfold isSpine; rw [hk]
            have use : ∀ {Hs : AH}, (∀ id k, Hs.bs.get id = some k → HD id = some k) → loadT E t p Hs = some v → Hs.n = e.st.H.n → o'.wpIn (rd ρ) 0 E.P a w K Q := fun {Hs} hless hl hnn =>
              alone (v := v) (Hs := Hs) hsp (noNew (by rw [hk]; simp)) (fin_val hrun).1 hrun hless (by rw [hop]; simp only [exOp, loadX, hpd, hl, vR]) hnn
            cases p with
            | ptr b off =>
              have hloc : ∃ l, γ.loc b = some l := by
                generalize a.eval x = pv at hpr
                cases hpr
                exact ⟨_, by assumption⟩
              obtain ⟨l, hl⟩ := hloc
              obtain ⟨k, hHD, H1, h1, h2⟩ := inv.seen lk hnum hini hs hg hr hn hk hw hp hl hv
              have hget : (Tr.set Tr.nil b k).get b = some k := by rw [Tr.get_set, if_pos rfl]
              refine use (Hs := ⟨e.st.H.n, Tr.set .nil b k⟩) (fun id k' hb => ?_) ?_ rfl
              · simp only [Tr.get_set, Tr.get_nil] at hb
                split at hb
                · rename_i q
                  subst q
                  rw [← hb]; exact hHD
                · cases hb
              · rw [← h2]
                exact loadT_ptr (by rw [h1]; exact hget)
            | glob g =>
              refine use (Hs := ⟨e.st.H.n, .nil⟩) (fun id k hb => by simp only [Tr.get_nil] at hb; cases hb) ?_ rfl
              rw [← hv]
              rfl
            | _ =>
              exfalso
              unfold loadT at hv
              split at hv <;> simp at hv
          · cases hx'
        | alloc =>
          obtain ⟨v, l, H1, rfl, hnew, hall⟩ := alloc_kind hk hx
          have hsp : isSpine E.ty o' = false := by unfold isSpine; rw [hk]
          rcases quiet_heap hg hsp with ⟨q, e1⟩ | ⟨k, v2, l2, q1, _, _, q2, q3, q4, q5, q6, q7⟩
          · exfalso
            have := (AH.new_ok hnew).1
            rw [← (fin_val hrun).1, e1] at this
            omega
          · have hl2 : l2 = l ∨ True := .inr trivial
            obtain ⟨H1', w1, w2⟩ := hall ⟨e.st.H.n, .nil⟩ rfl
            obtain ⟨_, hfv⟩ := fin_val hrun
            obtain ⟨FD', hfd, hF⟩ := fin_any (hfv H1') FD
            obtain ⟨m1, m2, m3⟩ := AH.new_ok w1
            obtain ⟨p1, p2, p3⟩ := AH.new_ok hnew
            have es : e.s.H = H1 := (fin_val hrun).1
            have hk2 : k = ⟨l.length, Tr.nil.put 0 l⟩ := by
              have a1 : e.s.H.bs.get e.st.H.n = some k := by rw [q3]; simp [hset]
              rw [es, p2] at a1
              simp [hset] at a1
              exact a1.symm
            have hless : ∀ id k, (Tr.nil : Tr Blk).get id = some k → HD id = some k := fun id k hb => by rw [Tr.get_nil] at hb; cases hb
            have hsrs : SR E γ N B nt FD (AH.mk e.st.H.n .nil).bs.get a w := ⟨inv.sr.rel.less hless, inv.sr.fr, inv.sr.low, inv.sr.size, inv.sr.defs.less hless⟩
            refine wp_of_fin hcall ok hsrs (by rw [hxr]; exact w2) hfd (fun id h1 h2 => hfr id h1 ?_) (fun γ' v0 v' w' hv hp hrel hnx => ?_)
            · simp only [m1] at h2
              omega
            · simp only at hp hrel hnx
              have hf := rel_frame (HD' := hset HD e.st.H.n k) inv.sr.rel hless hrel hnx (fun id k' hk' => by
                rw [m2]
                unfold hset at hk' ⊢
                simp only
                split at hk'
                · rename_i q
                  left
                  rw [if_pos q, ← hk', hk2]
                · exact .inr ⟨Tr.get_nil _, hk'⟩)
              refine hK _ _ _ _ _ _ _ _ (inv.quietly lk hnum hs hg hsp hr hn hF ⟨hf.1, put_ok (inv.sr.fr.mono hnx.le) hv hp inv.sr.size, Nat.le_trans inv.sr.low hnx.size, by rw [put_size]; exact inv.sr.size, inv.sr.defs.next hf.2 (put_defers _ _)⟩ ?_ (.inr ⟨k, q1, rfl⟩))
              have : H1'.n = e.s.H.n := by rw [m1, q2]
              rw [← this]
              exact hf.2
        | spine =>
          have hsp : isSpine E.ty o' = true := spine_iff.2 hk
          have hmid : ∀ e' ∈ mid, D e'.i := fun e' he' => by
            obtain ⟨⟨o2, ho2, _, h3⟩, _⟩ := lk.split (pre ++ mid) e rest (by rw [inv.eq, hs, List.append_assoc])
            rw [ho] at ho2
            simp only [Option.some.injEq] at ho2
            subst ho2
            exact inv.ready_anc ho hr (h3 hsp e' (by simp [he']))
          have hless := (inv.ahead hnum hs hg hmid).1
          obtain ⟨FD', hfd, hF⟩ := fin_any hrun FD
          have hsrs : SR E γ N B nt FD e.st.H.bs.get a w := ⟨inv.sr.rel.less hless, inv.sr.fr, inv.sr.low, inv.sr.size, inv.sr.defs.less hless⟩
          refine wp_of_fin hcall ok hsrs (by rw [hxr]; exact hx) hfd hfr (fun γ' v0 v' w' hv hp hrel hnx => ?_)
          simp only at hp hrel hnx
          obtain ⟨HD', hi⟩ := inv.acts lk hnum hs hg hsp hr hn hF ⟨hrel, put_ok (inv.sr.fr.mono hnx.le) hv hp inv.sr.size, Nat.le_trans inv.sr.low hnx.size, by rw [put_size]; exact inv.sr.size, (inv.sr.defs.less hless).next hnx (put_defers _ _)⟩ hnx (put_defers _ _)
          exact hK _ _ _ _ _ _ _ _ hi
      · cases hrun
end

theorem mem_edges {o : Oper} {p : Nat} : p ∈ edgesOf o ↔ ∃ e ∈ o.after, Region.binds .any e = true ∧ e.on = p := by
  unfold edgesOf
  simp only [List.mem_map, List.mem_filter, Array.mem_toList_iff]
  constructor
  · rintro ⟨e, ⟨h1, h2⟩, h3⟩; exact ⟨e, h1, h2, h3⟩
  · rintro ⟨e, h1, h2, h3⟩; exact ⟨e, ⟨h1, h2⟩, h3⟩

theorem draw_ok {E : Env} (ok : TyOk E) (hm : E.P.follows .mixedOrders = true) {call : CallF} {nt : Nat} (hcall : CallOk E call) (hnum : NumOk call) : DrawOk E nt call := by
  intro ops id F H s h γ N B ρ a w Q hs hf K
  unfold exReg at h
  simp only at h
  cases hL : planOf E.ty ops with
  | none => simp [hL] at h
  | some L =>
    rw [hL] at h
    simp only at h
    obtain ⟨log, y0, hmap, hrun, hyF, hyH⟩ := exDraw_run h
    have lk := plan_ok hL hmap
    refine wpIn_region_any hm ?_
    have main : ∀ (fuel : Nat) (listed : Array Bool) {pre suf xp γ' FD HD} {a' : Act} {w' : World}, listed.size = ops.size →
        Inv E call nt ops log ⟨F, H, [H], .nil⟩ y0 γ { w with drawn := w.drawn + 1 } N B pre suf xp γ' FD HD (fun i => listed.getD i false = true) a' w' →
        (List.range ops.size).countP (fun i => !listed.getD i true) ≤ fuel → wpAnyIn (rd ρ) 0 E.P .any ops Q fuel listed a' w' := by
      have hend : ∀ {pre suf xp γ' FD HD} {D : Nat → Prop} {a' : Act} {w' : World}, Inv E call nt ops log ⟨F, H, [H], .nil⟩ y0 γ { w with drawn := w.drawn + 1 } N B pre suf xp γ' FD HD D a' w' → (∀ e ∈ log, D e.i) → Q .normal a' w' := fun {pre suf xp γ' FD HD D a' w'} inv hall => by
        obtain ⟨k1, k2⟩ := inv.last lk hnum hall
        rw [hyF, hyH] at k1
        rw [hyH] at k2
        exact K _ _ _ k1 ((Nxt.heap (γ := γ) (H := H.bs.get) (w := w) (w' := { w with drawn := w.drawn + 1 }) H.n rfl).trans k2)
      have same : ∀ (listed : Array Bool) (j : Nat), listed.getD j false = true ↔ ¬ (listed.getD j true = false) ∧ j < listed.size := fun listed j => by
        simp only [Array.getD_eq_getD_getElem?]
        by_cases hj : j < listed.size
        · simp [hj]
        · simp [hj]
      have hready : ∀ {listed : Array Bool}, listed.size = ops.size → Region.ready .any ops listed = [] → ∀ n l1 e l2, l1.length ≤ n → log = l1 ++ e :: l2 → listed.getD e.i false = true := by
        intro listed hsz hnil n
        induction n with
        | zero =>
          intro l1 e l2 hn hl
          obtain ⟨⟨o, ho, hp, _⟩, _⟩ := lk.split l1 e l2 hl
          have hlt : e.i < ops.size := (Array.getElem?_eq_some_iff.1 ho).1
          rw [same]
          refine ⟨fun q => ?_, by omega⟩
          have : e.i ∈ Region.ready .any ops listed := mem_ready.2 ⟨q, o, ho, fun ed hed hb => by
            obtain ⟨e', he', _⟩ := hp ed.on (mem_edges.2 ⟨ed, hed, hb, rfl⟩)
            have : l1 = [] := List.eq_nil_of_length_eq_zero (by omega)
            subst this
            simp at he'⟩
          rw [hnil] at this
          simp at this
        | succ n ih =>
          intro l1 e l2 hn hl
          obtain ⟨⟨o, ho, hp, _⟩, _⟩ := lk.split l1 e l2 hl
          have hlt : e.i < ops.size := (Array.getElem?_eq_some_iff.1 ho).1
          rw [same]
          refine ⟨fun q => ?_, by omega⟩
          have : e.i ∈ Region.ready .any ops listed := mem_ready.2 ⟨q, o, ho, fun ed hed hb => by
            obtain ⟨e', he', hi⟩ := hp ed.on (mem_edges.2 ⟨ed, hed, hb, rfl⟩)
            obtain ⟨m1, m2, rfl⟩ := List.append_of_mem he'
            rw [← hi]
            exact ih m1 e' (m2 ++ e :: l2) (by simp at hn; omega) (by rw [hl]; simp)⟩
          rw [hnil] at this
          simp at this
      have hall : ∀ {listed : Array Bool}, listed.size = ops.size → Region.ready .any ops listed = [] → ∀ e ∈ log, listed.getD e.i false = true := fun {listed} hsz hnil e he => by
        obtain ⟨l1, l2, hl⟩ := List.append_of_mem he
        exact hready hsz hnil _ l1 e l2 (Nat.le_refl _) hl
      intro fuel
      induction fuel with
      | zero =>
        intro listed pre suf xp γ' FD HD a' w' hsz inv hc
        have hnil : Region.ready .any ops listed = [] := by
          cases hq : Region.ready .any ops listed with
          | nil => rfl
          | cons i r =>
            exfalso
            have hi : i ∈ Region.ready .any ops listed := by rw [hq]; simp
            obtain ⟨h1, o, ho, _⟩ := mem_ready.1 hi
            have hlt : i < ops.size := (Array.getElem?_eq_some_iff.1 ho).1
            have : 0 < (List.range ops.size).countP (fun i => !listed.getD i true) := List.countP_pos_iff.2 ⟨i, List.mem_range.2 hlt, by simp only [h1]; rfl⟩
            omega
        exact ⟨hnil, hend inv (hall hsz hnil)⟩
      | succ fuel ih =>
        intro listed pre suf xp γ' FD HD a' w' hsz inv hc
        refine ⟨fun hnil => hend inv (hall hsz hnil), fun i hi => ?_⟩
        obtain ⟨h1, o, ho, h2⟩ := mem_ready.1 hi
        have hlt : i < ops.size := (Array.getElem?_eq_some_iff.1 ho).1
        obtain ⟨e, hel, hei⟩ := lk.cover i hlt
        subst hei
        refine inv.step lk hcall hnum ok rfl (by rw [hyH]; exact hf) hel ho (fun p hp => ?_) (fun q => ((same listed e.i).1 q).1 h1) (fun pre' suf' xp' γ2 FD2 HD2 a2 w2 inv2 => ih _ (pre := pre') (suf := suf') (xp := xp') (γ' := γ2) (FD := FD2) (HD := HD2) (by simp [hsz]) ?_ ?_) (Q := Q)
        · obtain ⟨ed, hed, hb, rfl⟩ := mem_edges.1 hp
          exact h2 ed hed hb
        · have e1 : (fun j => (listed.setIfInBounds e.i true).getD j false = true) = fun j => listed.getD j false = true ∨ j = e.i := by
            funext j
            apply propext
            simp only [Array.getD_eq_getD_getElem?, Array.getElem?_setIfInBounds]
            by_cases q : e.i = j
            · subst q; simp [hsz, hlt]
            · simp [q, Ne.symm q]
          rw [e1]
          exact inv2
        · have := count_lt (p := fun i => !listed.getD i true) (p' := fun i => !(listed.setIfInBounds e.i true).getD i true) (List.range ops.size) (fun j _ hj => by
            simp only [Array.getD_eq_getD_getElem?, Array.getElem?_setIfInBounds] at hj ⊢
            by_cases q : e.i = j
            · subst q; simp [hsz, hlt] at hj
            · simpa [q] using hj) ⟨e.i, List.mem_range.2 hlt, by simp only [h1]; rfl, by simp [Array.getD_eq_getD_getElem?, Array.getElem?_setIfInBounds, hsz, hlt]⟩
          omega
    have hfree : ∀ id, H.n ≤ id → id < y0.H.n → H.bs.get id = none := fun id h1 h2 => by
      cases hb : H.bs.get id with
      | none => rfl
      | some k =>
        obtain ⟨β, ω, σ, hr⟩ := hs.rel.blk hb
        have := hf id h1 (by rw [← hyH]; exact h2)
        rw [hr.loc] at this; cases this
    have noD : ∀ i, ¬ (Array.replicate ops.size false).getD i false = true := fun i q => by
      simp only [Array.getD_eq_getD_getElem?, Array.getElem?_replicate] at q
      split at q <;> simp at q
    refine main ops.size _ (by simp) (pre := []) (suf := log) (xp := ⟨F, H, [H], .nil⟩) (γ' := γ) (FD := F) (HD := H.bs.get) ⟨rfl, rfl, hrun, by simp, rfl, fun e _ q => absurd q (noD _), fun q _ => absurd q (noD _), fun e _ q => absurd q (noD _), fun _ _ => rfl, fun e _ q => absurd q (noD _), fun _ _ => rfl, hfree, fun id l h1 h2 hl => ?_, ⟨hs.rel.heap rfl, hs.fr, hs.low, hs.size, hs.defs.base, hs.defs.nd, fun d hd => hs.defs.each d hd⟩, ?_⟩ ?_
    · have := hf id h1 (by rw [← hyH]; exact h2)
      rw [this] at hl; cases hl
    · have := run_num hnum hrun
      exact ⟨.refl _, Nat.le_refl _, fun _ _ _ => rfl, fun h e => .inr ⟨_, _, _, h, e, rfl⟩, fun e => .inl ⟨_, e⟩, this, ⟨rfl, rfl, rfl⟩, fun e => .inl ⟨_, e⟩⟩
    · have := List.countP_le_length (p := fun i => !(Array.replicate ops.size false).getD i true) (l := List.range ops.size)
      simpa using this
end Go.Proofs.YtejdaljcplbaeaaGreatDoor.Ex
