/- The plain runner: a region whose order is open. One step, whichever it is. -/
import Derived.Test.YtfcfliclmjikkaaGreatDoorExy
namespace Go.Proofs.YtfcfliclmjikkaaGreatDoor.Ex
open Go
set_option linter.unusedVariables false
set_option linter.unusedSimpArgs false

theorem put_frame {nt : Nat} {F F' : Fr} {d : Option Tmp} {v : AV} (h : putA nt F d v = some F') (t : Tmp) : tmpA F' t = if d = some t then v else tmpA F t := by
  unfold putA at h
  cases d with
  | none => simp only [Option.some.injEq] at h; rw [← h]; simp
  | some u =>
    simp only at h
    split at h
    · simp only [Option.some.injEq] at h
      rw [← h, tmpA_set]
      by_cases q : u = t
      · subst q; simp
      · rw [if_neg q, if_neg (by simpa using q)]
    · cases h
theorem put_any {nt : Nat} {F F' : Fr} {d : Option Tmp} {v : AV} (h : putA nt F d v = some F') (G : Fr) : ∃ G', putA nt G d v = some G' := by
  unfold putA at h ⊢
  cases d with
  | none => exact ⟨G, rfl⟩
  | some u =>
    simp only at h ⊢
    split at h
    · rename_i q; rw [if_pos q]; exact ⟨_, rfl⟩
    · cases h

section
variable {E : Env} {call : CallF} {nt : Nat} {ops : Array Oper} {log : List Ent} {x0 y0 : DS} {γ0 : Cx} {w0 : World} {N B : Nat}
variable {pre suf : List Ent} {xp : DS} {γ : Cx} {FD : Fr} {HD : HM} {D : Nat → Prop} {a : Act} {w : World}
theorem mid_ids (hnum : NumOk call) {mid rest : List Ent} {e : Ent} {xp : DS} (hrun : Run E call nt ops (mid ++ e :: rest) xp y0) {o : Oper} (hg : Good E call nt ops e o) :
    Run E call nt ops mid xp e.st ∧ Run E call nt ops rest (e.after E.ty ops o) y0 := by
  obtain ⟨z, h1, h2, o', h3, h4⟩ := Run.append hrun
  subst h2
  have : o' = o := by
    have := h3.op.symm.trans hg.op
    simpa using this
  subst this
  exact ⟨h1, h4⟩
variable (inv : Inv E call nt ops log x0 y0 γ0 w0 N B pre suf xp γ FD HD D a w)
include inv
/-- Ahead of an operation that acts, all is done; so memory has what the runner's has, there. -/
theorem Inv.ahead (hnum : NumOk call) {mid rest : List Ent} {e : Ent} (hs : suf = mid ++ e :: rest) {o : Oper} (hg : Good E call nt ops e o) (hmid : ∀ e' ∈ mid, D e'.i) :
    (∀ id k, e.st.H.bs.get id = some k → HD id = some k) ∧ ∀ id, e.st.H.n ≤ id → id < y0.H.n → e.st.H.bs.get id = none := by
  have hr2 := inv.run2
  rw [hs] at hr2
  obtain ⟨r1, r2⟩ := mid_ids hnum hr2 hg
  have hsub : ∀ e' ∈ mid, e' ∈ suf := fun e' he' => by rw [hs]; simp [he']
  have hq := run_quiet hnum r1 (fun e' he' => inv.quiet e' (hsub e' he') (hmid e' he'))
  have n1 : xp.H.n ≤ e.st.H.n := run_num hnum r1
  refine ⟨fun id k hk => ?_, fun id h1 h2 => ?_⟩
  · obtain ⟨q1, q2⟩ := hq id
    by_cases hp : ∃ e' ∈ mid, ∃ k, newOf E.ty ops e' = some (id, k)
    · obtain ⟨e', he', k', hk'⟩ := hp
      have := q1 e' he' k' hk'
      rw [this] at hk
      simp only [Option.some.injEq] at hk
      subst hk
      exact inv.hd1 e' (hsub e' he') (hmid e' he') id k' hk'
    · have := q2 (fun e' he' k hk => hp ⟨e', he', k, hk⟩)
      rw [this] at hk
      rw [inv.hd2 id (fun e' he' q k' hk' => ?_)]
      · exact hk
      · have h3 := run_ids hnum inv.run2 e' he' id k' hk'
        rw [inv.free id h3.1 h3.2] at hk
        cases hk
  · rw [(hq id).2 (fun e' he' k hk => ?_)]
    · exact inv.free id (by omega) h2
    · have := run_ids hnum r1 e' he' id k hk
      omega

variable (lk : LogOk E.ty ops log)
include lk

/-- The slots, once more is done. -/
theorem Inv.fd {e : Ent} (he : e ∈ log) {o : Oper} (hg : Good E call nt ops e o) {FD' : Fr} (hF : ∀ t, tmpA FD' t = if o.dst = some t then tmpA e.s.F t else tmpA FD t) :
    (∀ e' ∈ log, (D e'.i ∨ e'.i = e.i) → ∀ t, dstOf ops e'.i = some t → tmpA FD' t = tmpA e'.s.F t) ∧ ∀ t, (∀ e' ∈ log, (D e'.i ∨ e'.i = e.i) → dstOf ops e'.i ≠ some t) → tmpA FD' t = tmpA x0.F t := by
  have hdst : dstOf ops e.i = o.dst := by unfold dstOf; rw [hg.op]; rfl
  refine ⟨fun e' he' hD t hd => ?_, fun t hno => ?_⟩
  · by_cases q : e'.i = e.i
    · have := lk.inj he' he q
      subst this
      rw [hF t, if_pos (hdst ▸ hd)]
    · rw [hF t, if_neg]
      · exact inv.fd1 e' he' (hD.resolve_right q) t hd
      · intro ho
        unfold dstOf at hd
        cases h6 : ops[e'.i]? with
        | none => simp [h6] at hd
        | some o3 =>
          rw [h6] at hd
          exact q (lk.dst h6 hg.op hd ho)
  · rw [hF t, if_neg (by rw [← hdst]; exact hno e he (.inr rfl))]
    exact inv.fd2 t (fun e' he' hD => hno e' he' (.inl hD))

/-- A step that leaves memory alone, or makes one block. -/
theorem Inv.quietly (hnum : NumOk call) {mid rest : List Ent} {e : Ent} (hs : suf = mid ++ e :: rest) {o : Oper} (hg : Good E call nt ops e o) (hsp : isSpine E.ty o = false) (hr : ∀ p ∈ edgesOf o, D p) (hn : ¬ D e.i)
    {FD' : Fr} (hF : ∀ t, tmpA FD' t = if o.dst = some t then tmpA e.s.F t else tmpA FD t) {γ' : Cx} {HD' : HM} {a' : Act} {w' : World} (hsr : SR E γ' N B nt FD' HD' a' w') (hx : Nxt γ HD w e.st.H.n γ' HD' w' e.s.H.n)
    (hH : (newOf E.ty ops e = none ∧ HD' = HD) ∨ ∃ k, newOf E.ty ops e = some (e.st.H.n, k) ∧ HD' = hset HD e.st.H.n k) :
    Inv E call nt ops log x0 y0 γ0 w0 N B pre suf xp γ' FD' HD' (fun i => D i ∨ i = e.i) a' w' := by
  have hes : e ∈ suf := by rw [hs]; simp
  have hel : e ∈ log := by rw [inv.eq]; exact List.mem_append_right _ hes
  have hsub : ∀ e' ∈ suf, e' ∈ log := fun e' he' => by rw [inv.eq]; exact List.mem_append_right _ he'
  have hD : ∀ e' ∈ suf, (D e'.i ∨ e'.i = e.i) → D e'.i ∨ e' = e := fun e' he' q => q.imp id (fun q => lk.inj (hsub e' he') hel q)
  obtain ⟨f1, f2⟩ := inv.fd lk hel hg hF
  -- where the step stands in the runner's own order
  obtain ⟨z, r1, r2, o', r3, r4⟩ : ∃ z, Run E call nt ops mid xp z ∧ e.st = z ∧ ∃ o', Good E call nt ops e o' ∧ Run E call nt ops rest (e.after E.ty ops o') y0 := by
    have := inv.run2
    rw [hs] at this
    obtain ⟨z, h1, h2, o', h3, h4⟩ := Run.append this
    exact ⟨z, h1, h2, o', h3, h4⟩
  subst r2
  have n0 : x0.H.n ≤ xp.H.n := run_num hnum inv.run1
  have n1 : xp.H.n ≤ e.st.H.n := run_num hnum r1
  have n2 : e.s.H.n ≤ y0.H.n := run_num hnum r4
  have hnm : ∀ {n k}, newOf E.ty ops e = some (n, k) → n = e.st.H.n := fun {n k} q => by
    rcases hH with ⟨p, _⟩ | ⟨k', p, _⟩
    · rw [p] at q; cases q
    · rw [p] at q; simp only [Option.some.injEq, Prod.mk.injEq] at q; exact q.1.symm
  refine ⟨inv.eq, inv.run1, inv.run2, fun e' he' => .inl (inv.done e' he'), inv.head, fun e' he' q => ?_, fun {i j} q ha => ?_, f1, f2, fun e' he' q id k hk => ?_, fun id hno => ?_, inv.free, fun id l h1 h2 hl => ?_, hsr, inv.nxt.into hx (by omega) n2⟩
  · rcases hD e' he' q with q | q
    · exact inv.quiet e' he' q
    · subst q
      unfold spineE spineAt
      rw [hg.op]
      exact hsp
  · rcases q with q | q
    · exact .inl (inv.anc q ha)
    · subst q; exact .inl (inv.ready_anc hg.op hr ha)
  · rcases hH with ⟨p1, p2⟩ | ⟨k', p1, p2⟩
    · subst p2
      rcases hD e' he' q with q | q
      · exact inv.hd1 e' he' q id k hk
      · subst q; rw [p1] at hk; cases hk
    · subst p2
      unfold hset
      split
      · rename_i q2
        subst q2
        rw [run_once hnum inv.run2 e' he' e hes _ _ _ hk p1]
      · rename_i q2
        rcases hD e' he' q with q | q
        · exact inv.hd1 e' he' q id k hk
        · subst q; exact absurd (hnm hk).symm q2
  · have old : HD id = xp.H.bs.get id := inv.hd2 id (fun e' he' q k hk => hno e' he' (.inl q) k hk)
    rcases hH with ⟨p1, p2⟩ | ⟨k', p1, p2⟩
    · rw [p2]; exact old
    · rw [p2]
      unfold hset
      rw [if_neg]
      · exact old
      · intro q
        exact hno e hes (.inr rfl) k' (q ▸ p1)
  · rcases hx.dom hl with ⟨l0, h0⟩ | ⟨h3, h4⟩
    · rcases inv.name id l0 h1 h2 h0 with q | ⟨e', he', q, k, hk⟩
      · exact .inl q
      · exact .inr ⟨e', he', .inl q, k, hk⟩
    · right
      rcases quiet_heap hg hsp with ⟨q, p⟩ | ⟨k, v, l', q, _, _, p, _⟩
      · rw [p] at h4; omega
      · have : id = e.st.H.n := by omega
        subst this
        exact ⟨e, hes, .inr rfl, k, q⟩


open Classical in
/-- A step that acts. -/
theorem Inv.acts (hnum : NumOk call) {mid rest : List Ent} {e : Ent} (hs : suf = mid ++ e :: rest) {o : Oper} (hg : Good E call nt ops e o) (hsp : isSpine E.ty o = true) (hr : ∀ p ∈ edgesOf o, D p) (hn : ¬ D e.i)
    {FD' : Fr} (hF : ∀ t, tmpA FD' t = if o.dst = some t then tmpA e.s.F t else tmpA FD t) {γ' : Cx} {a' : Act} {w' : World} (hsr : SR E γ' N B nt FD' e.s.H.bs.get a' w') (hx : Nxt γ e.st.H.bs.get w e.st.H.n γ' e.s.H.bs.get w' e.s.H.n) (hdf : a'.defers = a.defers) :
    ∃ HD', Inv E call nt ops log x0 y0 γ0 w0 N B (pre ++ mid ++ [e]) rest (e.after E.ty ops o) γ' FD' HD' (fun i => D i ∨ i = e.i) a' w' := by
  have hlog : log = (pre ++ mid) ++ e :: rest := by rw [inv.eq, hs, List.append_assoc]
  have hel : e ∈ log := by rw [hlog]; simp
  have hmid : ∀ e' ∈ mid, D e'.i := fun e' he' => by
    obtain ⟨⟨o', ho', _, h3⟩, _⟩ := lk.split _ e rest hlog
    rw [hg.op] at ho'
    simp only [Option.some.injEq] at ho'
    subst ho'
    exact inv.ready_anc hg.op hr (h3 hsp e' (by simp [he']))
  have hrest : ∀ e' ∈ rest, (D e'.i ∨ e'.i = e.i) → D e'.i := fun e' he' q => by
    refine q.resolve_right (fun q => ?_)
    obtain ⟨m1, m2, rfl⟩ := List.append_of_mem he'
    exact (lk.split (pre ++ mid ++ e :: m1) e' m2 (by rw [hlog]; simp)).2 e (by simp) q.symm
  have hsub : ∀ e' ∈ rest, e' ∈ suf := fun e' he' => by rw [hs]; simp [he']
  obtain ⟨hless, hfree⟩ := inv.ahead hnum hs hg hmid
  obtain ⟨f1, f2⟩ := inv.fd lk hel hg hF
  have hr2 := inv.run2
  rw [hs] at hr2
  obtain ⟨r1, r2⟩ := mid_ids hnum hr2 hg
  have n0 : x0.H.n ≤ xp.H.n := run_num hnum inv.run1
  have n1 : xp.H.n ≤ e.st.H.n := run_num hnum r1
  have n3 : e.st.H.n ≤ e.s.H.n := exOne_num hnum hg.run
  have n2 : e.s.H.n ≤ y0.H.n := run_num hnum r2
  let HD' : HM := fun id => if ∃ e' ∈ rest, D e'.i ∧ ∃ k, newOf E.ty ops e' = some (id, k) then HD id else e.s.H.bs.get id
  have hfr := rel_frame (HD' := HD') inv.sr.rel hless hsr.rel hx (fun id k hk => by
    simp only [HD'] at hk
    split at hk
    · rename_i hp
      obtain ⟨e', he', _, k', hk'⟩ := hp
      have h3 := run_ids hnum r2 e' he' id k' hk'
      have : (e.after E.ty ops o).H.n = e.s.H.n := rfl
      exact .inr ⟨hfree id (by omega) h3.2, hk⟩
    · exact .inl hk)
  refine ⟨HD', ⟨by rw [hlog]; simp, ?_, r2, fun e' he' => ?_, ?_, fun e' he' q => inv.quiet e' (hsub e' he') (hrest e' he' q), fun {i j} q ha => ?_, f1, f2, fun e' he' q id k hk => ?_, fun id hno => ?_, fun id h1 h2 => ?_, fun id l h1 h2 hl => ?_, ⟨hfr.1, hsr.fr, hsr.low, hsr.size, inv.sr.defs.next hfr.2 hdf⟩, inv.nxt.into hfr.2 (by omega) n2⟩⟩
  · rw [List.append_assoc]
    exact inv.run1.join (r1.join ⟨rfl, o, hg, rfl⟩)
  · simp only [List.mem_append, List.mem_singleton] at he'
    rcases he' with (q | q) | q
    · exact .inl (inv.done e' q)
    · exact .inl (hmid e' q)
    · exact .inr (by rw [q])
  · unfold Ent.after
    simp [spine_iff.1 hsp]
  · rcases q with q | q
    · exact .inl (inv.anc q ha)
    · subst q; exact .inl (inv.ready_anc hg.op hr ha)
  · have q' := hrest e' he' q
    simp only [HD']
    rw [if_pos ⟨e', he', q', k, hk⟩]
    exact inv.hd1 e' (hsub e' he') q' id k hk
  · simp only [HD']
    rw [if_neg]
    · rfl
    · rintro ⟨e', he', q, k, hk⟩
      exact hno e' he' (.inl q) k hk
  · have e1 : (e.after E.ty ops o).H = e.s.H := rfl
    rw [e1] at h1 ⊢
    cases hb : e.s.H.bs.get id with
    | none => rfl
    | some k =>
      rcases hx.new hb with ⟨k0, q⟩ | q
      · rw [hfree id (by omega) h2] at q; cases q
      · omega
  · have e1 : (e.after E.ty ops o).H.n = e.s.H.n := rfl
    rw [e1]
    rcases hx.dom hl with ⟨l0, h0⟩ | ⟨h3, h4⟩
    · rcases inv.name id l0 h1 h2 h0 with q | ⟨e', he', q, k, hk⟩
      · left; omega
      · rw [hs] at he'
        rcases List.mem_append.1 he' with m | m
        · have := run_ids hnum r1 e' m id k hk
          left; omega
        · rcases List.mem_cons.1 m with m | m
          · subst m; exact absurd q hn
          · exact .inr ⟨e', m, .inl q, k, hk⟩
    · exact .inl h4
end
end Go.Proofs.YtfcfliclmjikkaaGreatDoor.Ex
