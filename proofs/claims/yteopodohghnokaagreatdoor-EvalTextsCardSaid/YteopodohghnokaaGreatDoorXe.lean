/- The plain runner: a region whose order is open. One step, whichever it is. -/
import Derived.Test.YteopodohghnokaaGreatDoorXd
import Derived.Below
import Derived.Laws.Externs
section
namespace Go.Proofs.YteopodohghnokaaGreatDoor.Ex
open Go
set_option linter.unusedVariables false
set_option linter.unusedSimpArgs false

theorem put_frame {nt : Nat} {F F' : Fr} {d : Option Tmp} {v : AV} (h : putA nt F d v = some F') (t : Tmp) : tmpA F' t = if d = some t then v else tmpA F t := by
  unfold putA at h
  cases d with
  | none => simp only [Option.some.injEq] at h; rw [← h]; simp
  | some u =>
    simp only at h
    split at h
    · simp only [Option.some.injEq] at h
      rw [← h, tmpA_set]
      by_cases q : u = t
      · subst q; simp
      · rw [if_neg q, if_neg (by simpa using q)]
    · cases h
theorem put_any {nt : Nat} {F F' : Fr} {d : Option Tmp} {v : AV} (h : putA nt F d v = some F') (G : Fr) : ∃ G', putA nt G d v = some G' := by
  unfold putA at h ⊢
  cases d with
  | none => exact ⟨G, rfl⟩
  | some u =>
    simp only at h ⊢
    split at h
    · rename_i q; rw [if_pos q]; exact ⟨_, rfl⟩
    · cases h

section
variable {E : Env} {call : CallF} {nt : Nat} {ops : Array Oper} {log : List Ent} {x0 y0 : DS} {γ0 : Cx} {w0 : World} {N B : Nat}
variable {pre suf : List Ent} {xp : DS} {γ : Cx} {FD : Fr} {HD : HM} {D : Nat → Prop} {a : Act} {w : World}
theorem mid_ids (hnum : NumOk call) {mid rest : List Ent} {e : Ent} {xp : DS} (hrun : Run E call nt ops (mid ++ e :: rest) xp y0) {o : Oper} (hg : Good E call nt ops e o) :
    Run E call nt ops mid xp e.st ∧ Run E call nt ops rest (e.after E.ty ops o) y0 := by
  obtain ⟨z, h1, h2, o', h3, h4⟩ := Run.append hrun
  subst h2
  have : o' = o := by
    have := h3.op.symm.trans hg.op
    simpa using this
  subst this
  exact ⟨h1, h4⟩
variable (inv : Inv E call nt ops log x0 y0 γ0 w0 N B pre suf xp γ FD HD D a w)
include inv
/-- Ahead of an operation that acts, all is done; so memory has what the runner's has, there. -/
theorem Inv.ahead (hnum : NumOk call) {mid rest : List Ent} {e : Ent} (hs : suf = mid ++ e :: rest) {o : Oper} (hg : Good E call nt ops e o) (hmid : ∀ e' ∈ mid, D e'.i) :
    (∀ id k, e.st.H.bs.get id = some k → HD id = some k) ∧ ∀ id, e.st.H.n ≤ id → id < y0.H.n → e.st.H.bs.get id = none := by
  have hr2 := inv.run2
  rw [hs] at hr2
  obtain ⟨r1, r2⟩ := mid_ids hnum hr2 hg
  have hsub : ∀ e' ∈ mid, e' ∈ suf := fun e' he' => by rw [hs]; simp [he']
  have hq := run_quiet hnum r1 (fun e' he' => inv.quiet e' (hsub e' he') (hmid e' he'))
  have n1 : xp.H.n ≤ e.st.H.n := run_num hnum r1
  refine ⟨fun id k hk => ?_, fun id h1 h2 => ?_⟩
  · obtain ⟨q1, q2⟩ := hq id
    by_cases hp : ∃ e' ∈ mid, ∃ k, newOf E.ty ops e' = some (id, k)
    · obtain ⟨e', he', k', hk'⟩ := hp
      have := q1 e' he' k' hk'
      rw [this] at hk
      simp only [Option.some.injEq] at hk
      subst hk
      exact inv.hd1 e' (hsub e' he') (hmid e' he') id k' hk'
    · have := q2 (fun e' he' k hk => hp ⟨e', he', k, hk⟩)
      rw [this] at hk
      rw [inv.hd2 id (fun e' he' q k' hk' => ?_)]
      · exact hk
      · have h3 := run_ids hnum inv.run2 e' he' id k' hk'
        rw [inv.free id h3.1 h3.2] at hk
        cases hk
  · rw [(hq id).2 (fun e' he' k hk => ?_)]
    · exact inv.free id (by omega) h2
    · have := run_ids hnum r1 e' he' id k hk
      omega

variable (lk : LogOk E.ty ops log)
include lk

/-- The slots, once more is done. -/
theorem Inv.fd {e : Ent} (he : e ∈ log) {o : Oper} (hg : Good E call nt ops e o) {FD' : Fr} (hF : ∀ t, tmpA FD' t = if o.dst = some t then tmpA e.s.F t else tmpA FD t) :
    (∀ e' ∈ log, (D e'.i ∨ e'.i = e.i) → ∀ t, dstOf ops e'.i = some t → tmpA FD' t = tmpA e'.s.F t) ∧ ∀ t, (∀ e' ∈ log, (D e'.i ∨ e'.i = e.i) → dstOf ops e'.i ≠ some t) → tmpA FD' t = tmpA x0.F t := by
  have hdst : dstOf ops e.i = o.dst := by unfold dstOf; rw [hg.op]; rfl
  refine ⟨fun e' he' hD t hd => ?_, fun t hno => ?_⟩
  · by_cases q : e'.i = e.i
    · have := lk.inj he' he q
      subst this
      rw [hF t, if_pos (hdst ▸ hd)]
    · rw [hF t, if_neg]
      · exact inv.fd1 e' he' (hD.resolve_right q) t hd
      · intro ho
        unfold dstOf at hd
        cases h6 : ops[e'.i]? with
        | none => simp [h6] at hd
        | some o3 =>
          rw [h6] at hd
          exact q (lk.dst h6 hg.op hd ho)
  · rw [hF t, if_neg (by rw [← hdst]; exact hno e he (.inr rfl))]
    exact inv.fd2 t (fun e' he' hD => hno e' he' (.inl hD))

/-- A step that leaves memory alone, or makes one block. -/
theorem Inv.quietly (hnum : NumOk call) {mid rest : List Ent} {e : Ent} (hs : suf = mid ++ e :: rest) {o : Oper} (hg : Good E call nt ops e o) (hsp : isSpine E.ty o = false) (hr : ∀ p ∈ edgesOf o, D p) (hn : ¬ D e.i)
    {FD' : Fr} (hF : ∀ t, tmpA FD' t = if o.dst = some t then tmpA e.s.F t else tmpA FD t) {γ' : Cx} {HD' : HM} {a' : Act} {w' : World} (hsr : SR E γ' N B nt FD' HD' a' w') (hx : Nxt γ HD w e.st.H.n γ' HD' w' e.s.H.n)
    (hH : (newOf E.ty ops e = none ∧ HD' = HD) ∨ ∃ k, newOf E.ty ops e = some (e.st.H.n, k) ∧ HD' = hset HD e.st.H.n k) :
    Inv E call nt ops log x0 y0 γ0 w0 N B pre suf xp γ' FD' HD' (fun i => D i ∨ i = e.i) a' w' := by
  have hes : e ∈ suf := by rw [hs]; simp
  have hel : e ∈ log := by rw [inv.eq]; exact List.mem_append_right _ hes
  have hsub : ∀ e' ∈ suf, e' ∈ log := fun e' he' => by rw [inv.eq]; exact List.mem_append_right _ he'
  have hD : ∀ e' ∈ suf, (D e'.i ∨ e'.i = e.i) → D e'.i ∨ e' = e := fun e' he' q => q.imp id (fun q => lk.inj (hsub e' he') hel q)
  obtain ⟨f1, f2⟩ := inv.fd lk hel hg hF
  -- where the step stands in the runner's own order
  obtain ⟨z, r1, r2, o', r3, r4⟩ : ∃ z, Run E call nt ops mid xp z ∧ e.st = z ∧ ∃ o', Good E call nt ops e o' ∧ Run E call nt ops rest (e.after E.ty ops o') y0 := by
    have := inv.run2
    rw [hs] at this
    obtain ⟨z, h1, h2, o', h3, h4⟩ := Run.append this
    exact ⟨z, h1, h2, o', h3, h4⟩
  subst r2
  have n0 : x0.H.n ≤ xp.H.n := run_num hnum inv.run1
  have n1 : xp.H.n ≤ e.st.H.n := run_num hnum r1
  have n2 : e.s.H.n ≤ y0.H.n := run_num hnum r4
  have hnm : ∀ {n k}, newOf E.ty ops e = some (n, k) → n = e.st.H.n := fun {n k} q => by
    rcases hH with ⟨p, _⟩ | ⟨k', p, _⟩
    · rw [p] at q; cases q
    · rw [p] at q; simp only [Option.some.injEq, Prod.mk.injEq] at q; exact q.1.symm
  refine ⟨inv.eq, inv.run1, inv.run2, fun e' he' => .inl (inv.done e' he'), inv.head, fun e' he' q => ?_, fun {i j} q ha => ?_, f1, f2, fun e' he' q id k hk => ?_, fun id hno => ?_, inv.free, fun id l h1 h2 hl => ?_, hsr, inv.nxt.into hx (by omega) n2⟩
  · rcases hD e' he' q with q | q
    · exact inv.quiet e' he' q
    · subst q
      unfold spineE spineAt
      rw [hg.op]
      exact hsp
  · rcases q with q | q
    · exact .inl (inv.anc q ha)
    · subst q; exact .inl (inv.ready_anc hg.op hr ha)
  · rcases hH with ⟨p1, p2⟩ | ⟨k', p1, p2⟩
    · subst p2
      rcases hD e' he' q with q | q
      · exact inv.hd1 e' he' q id k hk
      · subst q; rw [p1] at hk; cases hk
    · subst p2
      unfold hset
      split
      · rename_i q2
        subst q2
        rw [run_once hnum inv.run2 e' he' e hes _ _ _ hk p1]
      · rename_i q2
        rcases hD e' he' q with q | q
        · exact inv.hd1 e' he' q id k hk
        · subst q; exact absurd (hnm hk).symm q2
  · have old : HD id = xp.H.bs.get id := inv.hd2 id (fun e' he' q k hk => hno e' he' (.inl q) k hk)
    rcases hH with ⟨p1, p2⟩ | ⟨k', p1, p2⟩
    · rw [p2]; exact old
    · rw [p2]
      unfold hset
      rw [if_neg]
      · exact old
      · intro q
        exact hno e hes (.inr rfl) k' (q ▸ p1)
  · rcases hx.dom hl with ⟨l0, h0⟩ | ⟨h3, h4⟩
    · rcases inv.name id l0 h1 h2 h0 with q | ⟨e', he', q, k, hk⟩
      · exact .inl q
      · exact .inr ⟨e', he', .inl q, k, hk⟩
    · right
      rcases quiet_heap hg hsp with ⟨q, p⟩ | ⟨k, v, l', q, _, _, p, _⟩
      · rw [p] at h4; omega
      · have : id = e.st.H.n := by omega
        subst this
        exact ⟨e, hes, .inr rfl, k, q⟩


open Classical in
/-- A step that acts. -/
theorem Inv.acts (hnum : NumOk call) {mid rest : List Ent} {e : Ent} (hs : suf = mid ++ e :: rest) {o : Oper} (hg : Good E call nt ops e o) (hsp : isSpine E.ty o = true) (hr : ∀ p ∈ edgesOf o, D p) (hn : ¬ D e.i)
    {FD' : Fr} (hF : ∀ t, tmpA FD' t = if o.dst = some t then tmpA e.s.F t else tmpA FD t) {γ' : Cx} {a' : Act} {w' : World} (hsr : SR E γ' N B nt FD' e.s.H.bs.get a' w') (hx : Nxt γ e.st.H.bs.get w e.st.H.n γ' e.s.H.bs.get w' e.s.H.n) (hdf : a'.defers = a.defers) :
    ∃ HD', Inv E call nt ops log x0 y0 γ0 w0 N B (pre ++ mid ++ [e]) rest (e.after E.ty ops o) γ' FD' HD' (fun i => D i ∨ i = e.i) a' w' := by
  have hlog : log = (pre ++ mid) ++ e :: rest := by rw [inv.eq, hs, List.append_assoc]
  have hel : e ∈ log := by rw [hlog]; simp
  have hmid : ∀ e' ∈ mid, D e'.i := fun e' he' => by
    obtain ⟨⟨o', ho', _, h3⟩, _⟩ := lk.split _ e rest hlog
    rw [hg.op] at ho'
    simp only [Option.some.injEq] at ho'
    subst ho'
    exact inv.ready_anc hg.op hr (h3 hsp e' (by simp [he']))
  have hrest : ∀ e' ∈ rest, (D e'.i ∨ e'.i = e.i) → D e'.i := fun e' he' q => by
    refine q.resolve_right (fun q => ?_)
    obtain ⟨m1, m2, rfl⟩ := List.append_of_mem he'
    exact (lk.split (pre ++ mid ++ e :: m1) e' m2 (by rw [hlog]; simp)).2 e (by simp) q.symm
  have hsub : ∀ e' ∈ rest, e' ∈ suf := fun e' he' => by rw [hs]; simp [he']
  obtain ⟨hless, hfree⟩ := inv.ahead hnum hs hg hmid
  obtain ⟨f1, f2⟩ := inv.fd lk hel hg hF
  have hr2 := inv.run2
  rw [hs] at hr2
  obtain ⟨r1, r2⟩ := mid_ids hnum hr2 hg
  have n0 : x0.H.n ≤ xp.H.n := run_num hnum inv.run1
  have n1 : xp.H.n ≤ e.st.H.n := run_num hnum r1
  have n3 : e.st.H.n ≤ e.s.H.n := exOne_num hnum hg.run
  have n2 : e.s.H.n ≤ y0.H.n := run_num hnum r2
  let HD' : HM := fun id => if ∃ e' ∈ rest, D e'.i ∧ ∃ k, newOf E.ty ops e' = some (id, k) then HD id else e.s.H.bs.get id
  have hfr := rel_frame (HD' := HD') inv.sr.rel hless hsr.rel hx (fun id k hk => by
    simp only [HD'] at hk
    split at hk
    · rename_i hp
      obtain ⟨e', he', _, k', hk'⟩ := hp
      have h3 := run_ids hnum r2 e' he' id k' hk'
      have : (e.after E.ty ops o).H.n = e.s.H.n := rfl
      exact .inr ⟨hfree id (by omega) h3.2, hk⟩
    · exact .inl hk)
  refine ⟨HD', ⟨by rw [hlog]; simp, ?_, r2, fun e' he' => ?_, ?_, fun e' he' q => inv.quiet e' (hsub e' he') (hrest e' he' q), fun {i j} q ha => ?_, f1, f2, fun e' he' q id k hk => ?_, fun id hno => ?_, fun id h1 h2 => ?_, fun id l h1 h2 hl => ?_, ⟨hfr.1, hsr.fr, hsr.low, hsr.size, inv.sr.defs.next hfr.2 hdf⟩, inv.nxt.into hfr.2 (by omega) n2⟩⟩
  · rw [List.append_assoc]
    exact inv.run1.join (r1.join ⟨rfl, o, hg, rfl⟩)
  · simp only [List.mem_append, List.mem_singleton] at he'
    rcases he' with (q | q) | q
    · exact .inl (inv.done e' q)
    · exact .inl (hmid e' q)
    · exact .inr (by rw [q])
  · unfold Ent.after
    simp [spine_iff.1 hsp]
  · rcases q with q | q
    · exact .inl (inv.anc q ha)
    · subst q; exact .inl (inv.ready_anc hg.op hr ha)
  · have q' := hrest e' he' q
    simp only [HD']
    rw [if_pos ⟨e', he', q', k, hk⟩]
    exact inv.hd1 e' (hsub e' he') q' id k hk
  · simp only [HD']
    rw [if_neg]
    · rfl
    · rintro ⟨e', he', q, k, hk⟩
      exact hno e' he' (.inl q) k hk
  · have e1 : (e.after E.ty ops o).H = e.s.H := rfl
    rw [e1] at h1 ⊢
    cases hb : e.s.H.bs.get id with
    | none => rfl
    | some k =>
      rcases hx.new hb with ⟨k0, q⟩ | q
      · rw [hfree id (by omega) h2] at q; cases q
      · omega
  · have e1 : (e.after E.ty ops o).H.n = e.s.H.n := rfl
    rw [e1]
    rcases hx.dom hl with ⟨l0, h0⟩ | ⟨h3, h4⟩
    · rcases inv.name id l0 h1 h2 h0 with q | ⟨e', he', q, k, hk⟩
      · left; omega
      · rw [hs] at he'
        rcases List.mem_append.1 he' with m | m
        · have := run_ids hnum r1 e' m id k hk
          left; omega
        · rcases List.mem_cons.1 m with m | m
          · subst m; exact absurd q hn
          · exact .inr ⟨e', m, .inl q, k, hk⟩
    · exact .inl h4
end
end Go.Proofs.YteopodohghnokaaGreatDoor.Ex
end
section
namespace Go.Proofs.YteopodohghnokaaGreatDoor.Ex
open Go
set_option linter.unusedVariables false
set_option linter.unusedSimpArgs false

theorem fin_any {call : CallF} {nt : Nat} {F : Fr} {d : Option Tmp} {r : R} {s : St} (h : finA call nt F d r = some s) (G : Fr) : ∃ G', finA call nt G d r = some ⟨G', s.H⟩ ∧ ∀ t, tmpA G' t = if d = some t then tmpA s.F t else tmpA G t := by
  have key : ∀ {v : AV} {F' : Fr}, putA nt F d v = some F' → ∃ G', putA nt G d v = some G' ∧ ∀ t, tmpA G' t = if d = some t then tmpA F' t else tmpA G t := fun {v F'} hp => by
    obtain ⟨G', hG⟩ := put_any hp G
    refine ⟨G', hG, fun t => ?_⟩
    rw [put_frame hG t, put_frame hp t]
    by_cases q : d = some t
    · rw [if_pos q, if_pos q, if_pos q]
    · rw [if_neg q, if_neg q]
  unfold finA at h ⊢
  cases r with
  | val v H' =>
    simp only at h ⊢
    split at h
    · rename_i F' hp
      simp only [Option.some.injEq] at h; subst h
      obtain ⟨G', a, b⟩ := key hp
      rw [a]; exact ⟨G', rfl, b⟩
    · cases h
  | skip H' =>
    simp only at h ⊢
    split at h
    · rename_i F' hp
      simp only [Option.some.injEq] at h; subst h
      obtain ⟨G', a, b⟩ := key hp
      rw [a]; exact ⟨G', rfl, b⟩
    · cases h
  | call f args H' =>
    simp only at h ⊢
    split at h
    · split at h
      · rename_i F' hp
        simp only [Option.some.injEq] at h; subst h
        obtain ⟨G', a, b⟩ := key hp
        rw [a]; exact ⟨G', rfl, b⟩
      · cases h
    · cases h
theorem fin_val {call : CallF} {nt : Nat} {F : Fr} {d : Option Tmp} {v : AV} {H : AH} {s : St} (h : finA call nt F d (.val v H) = some s) : s.H = H ∧ ∀ H', finA call nt F d (.val v H') = some ⟨s.F, H'⟩ := by
  unfold finA at h ⊢
  simp only at h ⊢
  split at h
  · simp only [Option.some.injEq] at h; subst h; exact ⟨rfl, fun _ => rfl⟩
  · cases h

theorem loadT_ptr {E : Env} {t : TypeId} {b o : Nat} {H H' : AH} (h : H.bs.get b = H'.bs.get b) : loadT E t (.ptr b o) H = loadT E t (.ptr b o) H' := by
  have h1 : ∀ n, loadA H b o n = loadA H' b o n := fun n => by unfold loadA; rw [h]
  unfold loadT
  simp only [h1]
theorem loadT_has {E : Env} {t : TypeId} {b o : Nat} {H : AH} {v : AV} (h : loadT E t (.ptr b o) H = some v) : ∃ k, H.bs.get b = some k := by
  cases hb : H.bs.get b with
  | some k => exact ⟨k, rfl⟩
  | none =>
    have h1 : ∀ n, loadA H b o n = none := fun n => by unfold loadA; rw [hb]
    unfold loadT at h
    simp only [h1] at h
    split at h
    · cases h
    · split at h <;> simp at h
theorem wasSo_mem {E : Env} {t : TypeId} {p v : AV} {ini : Tr Blk} : ∀ {l : List AH}, wasSo E t p v ini l = true → ∀ {h : AH}, h ∈ l → (match (match p with
    | .ptr b _ => (match h.bs.get b with
      | some _ => loadT E t p h
      | none => if h.n ≤ b then loadT E t p ⟨0, ini⟩ else none)
    | _ => loadT E t p h) with
    | some u => eqAV u v
    | none => false) = true
  | [], _, h, hm => by simp at hm
  | x :: l, hw, h, hm => by
    unfold wasSo at hw
    rw [Bool.and_eq_true] at hw
    rcases List.mem_cons.1 hm with q | q
    · subst q; exact hw.1
    · exact wasSo_mem hw.2 q
theorem mem_past {α : Type} {q r : List α} {h : α} {d : Nat} (h1 : q ≠ []) (h2 : q.length ≤ d) : h ∈ (q ++ h :: r).tail.take d := by
  cases q with
  | nil => exact absurd rfl h1
  | cons x q =>
    simp only [List.cons_append, List.tail_cons]
    simp only [List.length_cons] at h2
    refine List.mem_take_iff_getElem.2 ⟨q.length, by simp; omega, by simp⟩

section
variable {E : Env} {call : CallF} {nt : Nat} {ops : Array Oper} {log : List Ent} {x0 y0 : DS} {γ0 : Cx} {w0 : World} {N B : Nat} {ρ : Option Nat}
variable {pre suf : List Ent} {xp : DS} {γ : Cx} {FD : Fr} {HD : HM} {D : Nat → Prop} {a : Act} {w : World}
variable (inv : Inv E call nt ops log x0 y0 γ0 w0 N B pre suf xp γ FD HD D a w) (lk : LogOk E.ty ops log)
include inv lk

/-- What a read sees now is what it saw in the runner's own order. -/
theorem Inv.seen (hnum : NumOk call) (hini : x0.ini = .nil) {mid rest : List Ent} {e : Ent} (hs : suf = mid ++ e :: rest) {o : Oper} (hg : Good E call nt ops e o) (hr : ∀ p ∈ edgesOf o, D p) (hn : ¬ D e.i)
    {t : TypeId} {x : Operand} (hk : okOf E.ty o.op = .load t x) (hw : wantedA ops e.st.F o = some true) {b off : Nat} {l : Nat × Nat × Nat} (hp : opA e.st.F x = some (.ptr b off)) (hl : γ.loc b = some l) {v : AV} (hv : loadT E t (.ptr b off) e.st.H = some v) :
    ∃ k, HD b = some k ∧ ∃ H : AH, H.bs.get b = some k ∧ loadT E t (.ptr b off) H = some v := by
  have hlog : log = (pre ++ mid) ++ e :: rest := by rw [inv.eq, hs, List.append_assoc]
  have hr2 := inv.run2
  rw [hs] at hr2
  obtain ⟨r1, r2⟩ := mid_ids hnum hr2 hg
  have n0 : x0.H.n ≤ xp.H.n := run_num hnum inv.run1
  have n1 : xp.H.n ≤ e.st.H.n := run_num hnum r1
  have n3 : e.st.H.n ≤ e.s.H.n := exOne_num hnum hg.run
  have n2 : e.s.H.n ≤ y0.H.n := run_num hnum r2
  have hrun : Run E call nt ops log x0 y0 := by rw [inv.eq]; exact inv.run1.join inv.run2
  have hsub : ∀ e' ∈ mid, e' ∈ suf := fun e' he' => by rw [hs]; simp [he']
  have fromXp : ∀ {k}, xp.H.bs.get b = some k → HD b = some k := fun {k} q => by
    rw [inv.hd2 b (fun e' he' _ k' hk' => ?_)]
    · exact q
    · have h3 := run_ids hnum inv.run2 e' he' b k' hk'
      rw [inv.free b h3.1 h3.2] at q; cases q
  have pending : xp.H.n ≤ b → b < y0.H.n → ∃ e' ∈ suf, ∃ k, newOf E.ty ops e' = some (b, k) ∧ HD b = some k := fun q1 q2 => by
    rcases inv.name b l (by omega) q2 hl with q | ⟨e', he', hD, k, hk'⟩
    · omega
    · exact ⟨e', he', k, hk', inv.hd1 e' he' hD b k hk'⟩
  by_cases hq : ∀ e' ∈ mid, spineE E.ty ops e' = false
  · obtain ⟨k, hbk⟩ := loadT_has hv
    obtain ⟨q1, q2⟩ := run_quiet hnum r1 hq b
    by_cases hex : ∃ e' ∈ mid, ∃ k, newOf E.ty ops e' = some (b, k)
    · obtain ⟨e', he', k', hk'⟩ := hex
      have h3 := run_ids hnum r1 e' he' b k' hk'
      obtain ⟨e2, he2, k2, hk2, hD2⟩ := pending h3.1 (by omega)
      have e3 := q1 e' he' k' hk'
      rw [hbk] at e3
      simp only [Option.some.injEq] at e3
      have e4 := run_once hnum inv.run2 e2 he2 e' (hsub e' he') b k2 k' hk2 hk'
      exact ⟨k2, hD2, e.st.H, by rw [hbk, e3, e4], hv⟩
    · have e3 := q2 (fun e' he' k' hk' => hex ⟨e', he', k', hk'⟩)
      rw [hbk] at e3
      exact ⟨k, fromXp e3.symm, e.st.H, hbk, hv⟩
  · have hnot : ∀ c ∈ spI E.ty ops mid, Nat.testBit ((masks ops.toList []).getD e.i 0) c = false := fun c hc => by
      obtain ⟨e', he', hi, hsp⟩ := spI_mem E.ty ops hc
      cases hb : Nat.testBit ((masks ops.toList []).getD e.i 0) c with
      | false => rfl
      | true =>
        have hDc : D c := inv.ready_anc hg.op hr hb
        rw [← hi] at hDc
        rw [inv.quiet e' (hsub e' he') hDc] at hsp; cases hsp
    have hage : (spR E.ty ops mid).length ≤ e.d := by
      rw [lk.age _ e rest hlog, spI_append, ← spI_len]
      exact ageOf_le _ _ _ hnot
    have hne : spR E.ty ops mid ≠ [] := by
      intro q
      apply hq
      intro e' he'
      cases hsp : spineE E.ty ops e' with
      | false => rfl
      | true =>
        exfalso
        have : spI E.ty ops mid = [] := List.eq_nil_of_length_eq_zero (by rw [spI_len, q]; rfl)
        obtain ⟨m1, m2, rfl⟩ := List.append_of_mem he'
        rw [spI_append] at this
        simp [spI, hsp] at this
    have hd : e.d ≠ 0 := by
      intro q
      rw [q] at hage
      exact hne (List.eq_nil_of_length_eq_zero (by omega))
    obtain ⟨p', v', g1, g2, g3⟩ := hg.ld t x hk hd hw
    rw [hp] at g1
    simp only [Option.some.injEq] at g1
    subst g1
    rw [hv] at g2
    simp only [Option.some.injEq] at g2
    subst g2
    obtain ⟨tl, htl⟩ : ∃ tl, xp.past = xp.H :: tl := by
      have := inv.head
      cases hpp : xp.past with
      | nil => rw [hpp] at this; simp at this
      | cons x tl => rw [hpp] at this; simp at this; exact ⟨tl, by rw [this]⟩
    have hmem : xp.H ∈ e.st.past.tail.take e.d := by
      rw [run_past r1, htl]
      exact mem_past hne hage
    have hso := wasSo_mem g3 hmem
    simp only at hso
    cases hxb : xp.H.bs.get b with
    | some k =>
      rw [hxb] at hso
      simp only at hso
      split at hso
      · rename_i u hu
        have := eqAV_ok _ _ hso
        subst this
        exact ⟨k, fromXp hxb, xp.H, hxb, hu⟩
      · cases hso
    | none =>
      rw [hxb] at hso
      simp only at hso
      split at hso
      · rename_i u hu
        have := eqAV_ok _ _ hso
        subst this
        split at hu
        · rename_i hle
          obtain ⟨k, hbk⟩ := loadT_has hu
          have hrun1 : Run E call nt ops (pre ++ mid) x0 e.st := inv.run1.join r1
          rcases run_ini hrun1 b k hbk with q | ⟨e', he', hk'⟩
          · rw [hini, Tr.get_nil] at q; cases q
          · have he'l : e' ∈ log := by rw [hlog]; exact List.mem_append_left _ he'
            have h3 := run_ids hnum hrun e' he'l b k hk'
            obtain ⟨e2, he2, k2, hk2, hD2⟩ := pending hle h3.2
            have e4 := run_once hnum hrun e2 (by rw [inv.eq]; exact List.mem_append_right _ he2) e' he'l b k2 k hk2 hk'
            exact ⟨k2, hD2, ⟨0, e.st.ini⟩, by rw [e4]; exact hbk, hu⟩
        · cases hu
      · cases hso

/-- One step, whichever it is. -/
theorem Inv.step (hcall : CallOk E call) (hnum : NumOk call) (ok : TyOk E) (hini : x0.ini = .nil) (hfree0 : ∀ id, x0.H.n ≤ id → id < y0.H.n → γ0.loc id = none) {Q : Exit → Act → World → Prop} {K : Act → World → Prop} {e : Ent} (hel : e ∈ log) {o : Oper} (ho : ops[e.i]? = some o) (hr : ∀ p ∈ edgesOf o, D p) (hn : ¬ D e.i)
    (hK : ∀ pre' suf' xp' γ' FD' HD' a' w', Inv E call nt ops log x0 y0 γ0 w0 N B pre' suf' xp' γ' FD' HD' (fun j => D j ∨ j = e.i) a' w' → K a' w') : wpOpIn (rd ρ) 0 E.P ops Q e.i K a w := by
  have hes : e ∈ suf := by
    rw [inv.eq] at hel
    rcases List.mem_append.1 hel with q | q
    · exact absurd (inv.done e q) hn
    · exact q
  obtain ⟨mid, rest, hs⟩ := List.append_of_mem hes
  have hr2 := inv.run2
  rw [hs] at hr2
  obtain ⟨z, r1, hz, o', hg, r2⟩ := Run.append hr2
  subst hz
  have : o' = o := by
    have := hg.op.symm.trans ho
    simpa using this
  subst this
  have n0 : x0.H.n ≤ xp.H.n := run_num hnum inv.run1
  have n1 : xp.H.n ≤ e.st.H.n := run_num hnum r1
  have n3 : e.st.H.n ≤ e.s.H.n := exOne_num hnum hg.run
  have n2 : e.s.H.n ≤ y0.H.n := run_num hnum r2
  have hrd := inv.reads lk hs hg hr hn
  unfold allReads at hrd
  have hwr := wantedA_reads (ops := ops) (o := o') hrd.left
  have hxr := fun H => exOp_reads (E := E) (o := o'.op) hrd.right H
  -- names that the step may give are free
  have hfr : ∀ id, e.st.H.n ≤ id → id < e.s.H.n → γ.loc id = none := fun id h1 h2 => by
    cases hl : γ.loc id with
    | none => rfl
    | some l =>
      rcases inv.name id l (by omega) (by omega) hl with q | ⟨e', he', hD, k, hk⟩
      · omega
      · rw [hs] at he'
        rcases List.mem_append.1 he' with m | m
        · have := run_ids hnum r1 e' m id k hk; omega
        · rcases List.mem_cons.1 m with m | m
          · subst m; exact absurd hD hn
          · have := run_ids hnum r2 e' m id k hk
            have e1 : (e.after E.ty ops o').H.n = e.s.H.n := rfl
            omega
  have hrun := hg.run
  unfold exOne at hrun
  unfold wpOpIn
  rw [ho]
  simp only
  cases hw : wantedA ops e.st.F o' with
  | none => rw [hw] at hrun; simp at hrun
  | some b =>
    have hwf := wanted_ok (a := a) (γ := γ) inv.sr.fr (hwr.trans hw)
    rw [hw] at hrun
    rw [hwf]
    cases b with
    | false =>
      simp only at hrun
      rw [if_neg (by simp)]
      refine ⟨fun _ _ => trivial, ?_⟩
      split at hrun
      · rename_i F' hp
        simp only [Option.some.injEq] at hrun
        obtain ⟨FD', hFD⟩ := put_any hp FD
        have e1 : e.s.H = e.st.H := by rw [← hrun]
        have e2 : e.s.F = F' := by rw [← hrun]
        have hF : ∀ t, tmpA FD' t = if o'.dst = some t then tmpA e.s.F t else tmpA FD t := fun t => by
          rw [e2, put_frame hFD t, put_frame hp t]
          by_cases q : o'.dst = some t
          · rw [if_pos q, if_pos q, if_pos q]
          · rw [if_neg q, if_neg q]
        cases hsp : isSpine E.ty o' with
        | false =>
          have hq : newOf E.ty ops e = none := by
            unfold newOf
            rw [hg.op]
            simp only [hw]
            cases okOf E.ty o'.op <;> rfl
          refine hK _ _ _ _ _ _ _ _ (inv.quietly lk hnum hs hg hsp hr hn hF (γ' := γ) (HD' := HD) ⟨inv.sr.rel, put_ok inv.sr.fr undef_ok hFD inv.sr.size, inv.sr.low, by rw [put_size]; exact inv.sr.size, inv.sr.defs.next (.refl _ _ _ 0) (put_defers _ _)⟩ ?_ (.inl ⟨hq, rfl⟩))
          rw [e1]
          exact .refl _ _ _ _
        | true =>
          have hmid : ∀ e' ∈ mid, D e'.i := fun e' he' => by
            obtain ⟨⟨o2, ho2, _, h3⟩, _⟩ := lk.split (pre ++ mid) e rest (by rw [inv.eq, hs, List.append_assoc])
            rw [ho] at ho2
            simp only [Option.some.injEq] at ho2
            subst ho2
            exact inv.ready_anc ho hr (h3 hsp e' (by simp [he']))
          obtain ⟨HD', hi⟩ := inv.acts lk hnum hs hg hsp hr hn hF (γ' := γ) (a' := a.put o'.dst undef) (w' := w) ⟨by rw [e1]; exact inv.sr.rel.less (inv.ahead hnum hs hg hmid).1, put_ok inv.sr.fr undef_ok hFD inv.sr.size, inv.sr.low, by rw [put_size]; exact inv.sr.size, by rw [e1]; exact (inv.sr.defs.less (inv.ahead hnum hs hg hmid).1).next (.refl _ _ _ 0) (put_defers _ _)⟩ (by rw [e1]; exact .refl _ _ _ _) (put_defers _ _)
          exact hK _ _ _ _ _ _ _ _ hi
      · cases hrun
    | true =>
      simp only at hrun
      rw [if_pos rfl]
      split at hrun
      · rename_i r hx
        -- a step that leaves memory alone, off a part of it
        have alone : ∀ {v : AV} {Hs : AH}, isSpine E.ty o' = false → newOf E.ty ops e = none → e.s.H = e.st.H → finA call nt e.st.F o'.dst (.val v e.st.H) = some e.s → (∀ id k, Hs.bs.get id = some k → HD id = some k) → exOp E FD o'.op Hs = some (.val v Hs) → Hs.n = e.st.H.n → o'.wpIn (rd ρ) 0 E.P a w K Q := fun {v Hs} hsp hq e1 hfin hless hxs hnn => by
          obtain ⟨_, hfv⟩ := fin_val hfin
          obtain ⟨FD', hfd, hF⟩ := fin_any (hfv Hs) FD
          have hsrs : SR E γ N B nt FD Hs.bs.get a w := ⟨inv.sr.rel.less hless, inv.sr.fr, inv.sr.low, inv.sr.size, inv.sr.defs.less hless⟩
          refine wp_of_fin hcall ok hsrs hxs hfd (fun id h1 h2 => ?_) (fun γ' v0 v' w' hv hp hrel hnx => ?_)
          · simp only at h2; omega
          · simp only at hp hrel hnx
            have hf := rel_frame (HD' := HD) inv.sr.rel hless hrel hnx (fun id k hk => by
              cases hb : Hs.bs.get id with
              | none => exact .inr ⟨rfl, hk⟩
              | some k' => left; rw [← hk, hless id k' hb])
            refine hK _ _ _ _ _ _ _ _ (inv.quietly lk hnum hs hg hsp hr hn hF ⟨hf.1, put_ok (inv.sr.fr.mono hnx.le) hv hp inv.sr.size, Nat.le_trans inv.sr.low hnx.size, by rw [put_size]; exact inv.sr.size, inv.sr.defs.next hf.2 (put_defers _ _)⟩ ?_ (.inl ⟨hq, rfl⟩))
            rw [e1, ← hnn]
            exact hf.2
        have noNew : okOf E.ty o'.op ≠ .alloc → newOf E.ty ops e = none := fun hk => by
          unfold newOf
          rw [hg.op]
          cases hq : okOf E.ty o'.op <;> simp_all
        cases hk : okOf E.ty o'.op with
        | pure =>
          obtain ⟨v, rfl, hall⟩ := pure_kind hk hx
          refine alone (v := v) (Hs := ⟨e.st.H.n, .nil⟩) (by unfold isSpine; rw [hk]) (noNew (by rw [hk]; simp)) (fin_val hrun).1 hrun (fun id k hb => by rw [Tr.get_nil] at hb; cases hb) ?_ rfl
          rw [hxr]
          exact hall _
        | load t x =>
          have hop := load_kind hk
          have hx' := hx
          rw [hop] at hx'
          simp only [exOp, loadX] at hx'
          split at hx'
          · rename_i p hp
            obtain ⟨v, hv, rfl⟩ := vR_some hx'
            have hpd : opA FD x = some p := by
              rw [← hp]
              refine opA_reads (fun u hu => hrd.right u ?_)
              rw [hop]
              exact hu
            have hpr := opA_ok inv.sr.fr hpd
            have hsp : isSpine E.ty o' = false := by unfold isSpine; rw [hk]
            have use : ∀ {Hs : AH}, (∀ id k, Hs.bs.get id = some k → HD id = some k) → loadT E t p Hs = some v → Hs.n = e.st.H.n → o'.wpIn (rd ρ) 0 E.P a w K Q := fun {Hs} hless hl hnn =>
              alone (v := v) (Hs := Hs) hsp (noNew (by rw [hk]; simp)) (fin_val hrun).1 hrun hless (by rw [hop]; simp only [exOp, loadX, hpd, hl, vR]) hnn
            cases p with
            | ptr b off =>
              have hloc : ∃ l, γ.loc b = some l := by
                generalize a.eval x = pv at hpr
                cases hpr
                exact ⟨_, by assumption⟩
              obtain ⟨l, hl⟩ := hloc
              obtain ⟨k, hHD, H1, h1, h2⟩ := inv.seen lk hnum hini hs hg hr hn hk hw hp hl hv
              have hget : (Tr.set Tr.nil b k).get b = some k := by rw [Tr.get_set, if_pos rfl]
              refine use (Hs := ⟨e.st.H.n, Tr.set .nil b k⟩) (fun id k' hb => ?_) ?_ rfl
              · simp only [Tr.get_set, Tr.get_nil] at hb
                split at hb
                · rename_i q
                  subst q
                  rw [← hb]; exact hHD
                · cases hb
              · rw [← h2]
                exact loadT_ptr (by rw [h1]; exact hget)
            | glob g =>
              refine use (Hs := ⟨e.st.H.n, .nil⟩) (fun id k hb => by simp only [Tr.get_nil] at hb; cases hb) ?_ rfl
              rw [← hv]
              rfl
            | _ =>
              exfalso
              unfold loadT at hv
              split at hv <;> simp at hv
          · cases hx'
        | alloc =>
          obtain ⟨v, l, H1, rfl, hnew, hall⟩ := alloc_kind hk hx
          have hsp : isSpine E.ty o' = false := by unfold isSpine; rw [hk]
          rcases quiet_heap hg hsp with ⟨q, e1⟩ | ⟨k, v2, l2, q1, _, _, q2, q3, q4, q5, q6, q7⟩
          · exfalso
            have := (AH.new_ok hnew).1
            rw [← (fin_val hrun).1, e1] at this
            omega
          · have hl2 : l2 = l ∨ True := .inr trivial
            obtain ⟨H1', w1, w2⟩ := hall ⟨e.st.H.n, .nil⟩ rfl
            obtain ⟨_, hfv⟩ := fin_val hrun
            obtain ⟨FD', hfd, hF⟩ := fin_any (hfv H1') FD
            obtain ⟨m1, m2, m3⟩ := AH.new_ok w1
            obtain ⟨p1, p2, p3⟩ := AH.new_ok hnew
            have es : e.s.H = H1 := (fin_val hrun).1
            have hk2 : k = ⟨l.length, Tr.nil.put 0 l⟩ := by
              have a1 : e.s.H.bs.get e.st.H.n = some k := by rw [q3]; simp [hset]
              rw [es, p2] at a1
              simp [hset] at a1
              exact a1.symm
            have hless : ∀ id k, (Tr.nil : Tr Blk).get id = some k → HD id = some k := fun id k hb => by rw [Tr.get_nil] at hb; cases hb
            have hsrs : SR E γ N B nt FD (AH.mk e.st.H.n .nil).bs.get a w := ⟨inv.sr.rel.less hless, inv.sr.fr, inv.sr.low, inv.sr.size, inv.sr.defs.less hless⟩
            refine wp_of_fin hcall ok hsrs (by rw [hxr]; exact w2) hfd (fun id h1 h2 => hfr id h1 ?_) (fun γ' v0 v' w' hv hp hrel hnx => ?_)
            · simp only [m1] at h2
              omega
            · simp only at hp hrel hnx
              have hf := rel_frame (HD' := hset HD e.st.H.n k) inv.sr.rel hless hrel hnx (fun id k' hk' => by
                rw [m2]
                unfold hset at hk' ⊢
                simp only
                split at hk'
                · rename_i q
                  left
                  rw [if_pos q, ← hk', hk2]
                · exact .inr ⟨Tr.get_nil _, hk'⟩)
              refine hK _ _ _ _ _ _ _ _ (inv.quietly lk hnum hs hg hsp hr hn hF ⟨hf.1, put_ok (inv.sr.fr.mono hnx.le) hv hp inv.sr.size, Nat.le_trans inv.sr.low hnx.size, by rw [put_size]; exact inv.sr.size, inv.sr.defs.next hf.2 (put_defers _ _)⟩ ?_ (.inr ⟨k, q1, rfl⟩))
              have : H1'.n = e.s.H.n := by rw [m1, q2]
              rw [← this]
              exact hf.2
        | spine =>
          have hsp : isSpine E.ty o' = true := spine_iff.2 hk
          have hmid : ∀ e' ∈ mid, D e'.i := fun e' he' => by
            obtain ⟨⟨o2, ho2, _, h3⟩, _⟩ := lk.split (pre ++ mid) e rest (by rw [inv.eq, hs, List.append_assoc])
            rw [ho] at ho2
            simp only [Option.some.injEq] at ho2
            subst ho2
            exact inv.ready_anc ho hr (h3 hsp e' (by simp [he']))
          have hless := (inv.ahead hnum hs hg hmid).1
          obtain ⟨FD', hfd, hF⟩ := fin_any hrun FD
          have hsrs : SR E γ N B nt FD e.st.H.bs.get a w := ⟨inv.sr.rel.less hless, inv.sr.fr, inv.sr.low, inv.sr.size, inv.sr.defs.less hless⟩
          refine wp_of_fin hcall ok hsrs (by rw [hxr]; exact hx) hfd hfr (fun γ' v0 v' w' hv hp hrel hnx => ?_)
          simp only at hp hrel hnx
          obtain ⟨HD', hi⟩ := inv.acts lk hnum hs hg hsp hr hn hF ⟨hrel, put_ok (inv.sr.fr.mono hnx.le) hv hp inv.sr.size, Nat.le_trans inv.sr.low hnx.size, by rw [put_size]; exact inv.sr.size, (inv.sr.defs.less hless).next hnx (put_defers _ _)⟩ hnx (put_defers _ _)
          exact hK _ _ _ _ _ _ _ _ hi
      · cases hrun
end

theorem mem_edges {o : Oper} {p : Nat} : p ∈ edgesOf o ↔ ∃ e ∈ o.after, Region.binds .any e = true ∧ e.on = p := by
  unfold edgesOf
  simp only [List.mem_map, List.mem_filter, Array.mem_toList_iff]
  constructor
  · rintro ⟨e, ⟨h1, h2⟩, h3⟩; exact ⟨e, h1, h2, h3⟩
  · rintro ⟨e, h1, h2, h3⟩; exact ⟨e, ⟨h1, h2⟩, h3⟩

theorem any_ok {E : Env} (ok : TyOk E) {call : CallF} {nt : Nat} (hcall : CallOk E call) (hnum : NumOk call) {ops : Array Oper} {L : List (Nat × Nat)} (hL : planOf E.ty ops = some L) {F : Fr} {H : AH} {s : St} (h : exDraw E call nt ops L F H [H] .nil = some s)
    {γ : Cx} {N B : Nat} {ρ : Option Nat} {a : Act} {w : World} {Q : Exit → Act → World → Prop} (hs : SR E γ N B nt F H.bs.get a w) (hf : ∀ id, H.n ≤ id → id < s.H.n → γ.loc id = none) (K : ∀ γ' a' w', SR E γ' N B nt s.F s.H.bs.get a' w' → Nxt γ H.bs.get w H.n γ' s.H.bs.get w' s.H.n → Q .normal a' w') :
    wpAnyIn (rd ρ) 0 E.P .any ops Q ops.size (Array.replicate ops.size false) a w := by
  obtain ⟨log, y0, hmap, hrun, hyF, hyH⟩ := exDraw_run h
  have lk := plan_ok hL hmap
  have main : ∀ (fuel : Nat) (listed : Array Bool) {pre suf xp γ' FD HD} {a' : Act} {w' : World}, listed.size = ops.size →
      Inv E call nt ops log ⟨F, H, [H], .nil⟩ y0 γ w N B pre suf xp γ' FD HD (fun i => listed.getD i false = true) a' w' →
      (List.range ops.size).countP (fun i => !listed.getD i true) ≤ fuel → wpAnyIn (rd ρ) 0 E.P .any ops Q fuel listed a' w' := by
    have hend : ∀ {pre suf xp γ' FD HD} {D : Nat → Prop} {a' : Act} {w' : World}, Inv E call nt ops log ⟨F, H, [H], .nil⟩ y0 γ w N B pre suf xp γ' FD HD D a' w' → (∀ e ∈ log, D e.i) → Q .normal a' w' := fun {pre suf xp γ' FD HD D a' w'} inv hall => by
      obtain ⟨k1, k2⟩ := inv.last lk hnum hall
      rw [hyF, hyH] at k1
      rw [hyH] at k2
      exact K _ _ _ k1 k2
    have same : ∀ (listed : Array Bool) (j : Nat), listed.getD j false = true ↔ ¬ (listed.getD j true = false) ∧ j < listed.size := fun listed j => by
      simp only [Array.getD_eq_getD_getElem?]
      by_cases hj : j < listed.size
      · simp [hj]
      · simp [hj]
    have hready : ∀ {listed : Array Bool}, listed.size = ops.size → Region.ready .any ops listed = [] → ∀ n l1 e l2, l1.length ≤ n → log = l1 ++ e :: l2 → listed.getD e.i false = true := by
      intro listed hsz hnil n
      induction n with
      | zero =>
        intro l1 e l2 hn hl
        obtain ⟨⟨o, ho, hp, _⟩, _⟩ := lk.split l1 e l2 hl
        have hlt : e.i < ops.size := (Array.getElem?_eq_some_iff.1 ho).1
        rw [same]
        refine ⟨fun q => ?_, by omega⟩
        have : e.i ∈ Region.ready .any ops listed := mem_ready.2 ⟨q, o, ho, fun ed hed hb => by
          obtain ⟨e', he', _⟩ := hp ed.on (mem_edges.2 ⟨ed, hed, hb, rfl⟩)
          have : l1 = [] := List.eq_nil_of_length_eq_zero (by omega)
          subst this
          simp at he'⟩
        rw [hnil] at this
        simp at this
      | succ n ih =>
        intro l1 e l2 hn hl
        obtain ⟨⟨o, ho, hp, _⟩, _⟩ := lk.split l1 e l2 hl
        have hlt : e.i < ops.size := (Array.getElem?_eq_some_iff.1 ho).1
        rw [same]
        refine ⟨fun q => ?_, by omega⟩
        have : e.i ∈ Region.ready .any ops listed := mem_ready.2 ⟨q, o, ho, fun ed hed hb => by
          obtain ⟨e', he', hi⟩ := hp ed.on (mem_edges.2 ⟨ed, hed, hb, rfl⟩)
          obtain ⟨m1, m2, rfl⟩ := List.append_of_mem he'
          rw [← hi]
          exact ih m1 e' (m2 ++ e :: l2) (by simp at hn; omega) (by rw [hl]; simp)⟩
        rw [hnil] at this
        simp at this
    have hall : ∀ {listed : Array Bool}, listed.size = ops.size → Region.ready .any ops listed = [] → ∀ e ∈ log, listed.getD e.i false = true := fun {listed} hsz hnil e he => by
      obtain ⟨l1, l2, hl⟩ := List.append_of_mem he
      exact hready hsz hnil _ l1 e l2 (Nat.le_refl _) hl
    intro fuel
    induction fuel with
    | zero =>
      intro listed pre suf xp γ' FD HD a' w' hsz inv hc
      have hnil : Region.ready .any ops listed = [] := by
        cases hq : Region.ready .any ops listed with
        | nil => rfl
        | cons i r =>
          exfalso
          have hi : i ∈ Region.ready .any ops listed := by rw [hq]; simp
          obtain ⟨h1, o, ho, _⟩ := mem_ready.1 hi
          have hlt : i < ops.size := (Array.getElem?_eq_some_iff.1 ho).1
          have : 0 < (List.range ops.size).countP (fun i => !listed.getD i true) := List.countP_pos_iff.2 ⟨i, List.mem_range.2 hlt, by simp only [h1]; rfl⟩
          omega
      exact ⟨hnil, hend inv (hall hsz hnil)⟩
    | succ fuel ih =>
      intro listed pre suf xp γ' FD HD a' w' hsz inv hc
      refine ⟨fun hnil => hend inv (hall hsz hnil), fun i hi => ?_⟩
      obtain ⟨h1, o, ho, h2⟩ := mem_ready.1 hi
      have hlt : i < ops.size := (Array.getElem?_eq_some_iff.1 ho).1
      obtain ⟨e, hel, hei⟩ := lk.cover i hlt
      subst hei
      refine inv.step lk hcall hnum ok rfl (by rw [hyH]; exact hf) hel ho (fun p hp => ?_) (fun q => ((same listed e.i).1 q).1 h1) (fun pre' suf' xp' γ2 FD2 HD2 a2 w2 inv2 => ih _ (pre := pre') (suf := suf') (xp := xp') (γ' := γ2) (FD := FD2) (HD := HD2) (by simp [hsz]) ?_ ?_) (Q := Q)
      · obtain ⟨ed, hed, hb, rfl⟩ := mem_edges.1 hp
        exact h2 ed hed hb
      · have e1 : (fun j => (listed.setIfInBounds e.i true).getD j false = true) = fun j => listed.getD j false = true ∨ j = e.i := by
          funext j
          apply propext
          simp only [Array.getD_eq_getD_getElem?, Array.getElem?_setIfInBounds]
          by_cases q : e.i = j
          · subst q; simp [hsz, hlt]
          · simp [q, Ne.symm q]
        rw [e1]
        exact inv2
      · have := count_lt (p := fun i => !listed.getD i true) (p' := fun i => !(listed.setIfInBounds e.i true).getD i true) (List.range ops.size) (fun j _ hj => by
          simp only [Array.getD_eq_getD_getElem?, Array.getElem?_setIfInBounds] at hj ⊢
          by_cases q : e.i = j
          · subst q; simp [hsz, hlt] at hj
          · simpa [q] using hj) ⟨e.i, List.mem_range.2 hlt, by simp only [h1]; rfl, by simp [Array.getD_eq_getD_getElem?, Array.getElem?_setIfInBounds, hsz, hlt]⟩
        omega
  have hfree : ∀ id, H.n ≤ id → id < y0.H.n → H.bs.get id = none := fun id h1 h2 => by
    cases hb : H.bs.get id with
    | none => rfl
    | some k =>
      obtain ⟨β, ω, σ, hr⟩ := hs.rel.blk hb
      have := hf id h1 (by rw [← hyH]; exact h2)
      rw [hr.loc] at this; cases this
  have noD : ∀ i, ¬ (Array.replicate ops.size false).getD i false = true := fun i q => by
    simp only [Array.getD_eq_getD_getElem?, Array.getElem?_replicate] at q
    split at q <;> simp at q
  refine main ops.size _ (by simp) (pre := []) (suf := log) (xp := ⟨F, H, [H], .nil⟩) (γ' := γ) (FD := F) (HD := H.bs.get) ⟨rfl, rfl, hrun, by simp, rfl, fun e _ q => absurd q (noD _), fun q _ => absurd q (noD _), fun e _ q => absurd q (noD _), fun _ _ => rfl, fun e _ q => absurd q (noD _), fun _ _ => rfl, hfree, fun id l h1 h2 hl => ?_, ⟨hs.rel.heap rfl, hs.fr, hs.low, hs.size, hs.defs.base, hs.defs.nd, fun d hd => hs.defs.each d hd⟩, ?_⟩ ?_
  · have := hf id h1 (by rw [← hyH]; exact h2)
    rw [this] at hl; cases hl
  · have := run_num hnum hrun
    exact ⟨.refl _, Nat.le_refl _, fun _ _ _ => rfl, fun h e => .inr ⟨_, _, _, h, e, rfl⟩, fun e => .inl ⟨_, e⟩, this, ⟨rfl, rfl, rfl⟩, fun e => .inl ⟨_, e⟩⟩
  · have := List.countP_le_length (p := fun i => !(Array.replicate ops.size false).getD i true) (l := List.range ops.size)
    simpa using this

/-! ### A region in two -/
theorem Oper.wpIn_swap {F : Fence} {n : Nat} {P : Program} {o : Oper} {a : Act} {w : World} {K K' : Act → World → Prop} {Q Q' : Exit → Act → World → Prop} (hQ : ∀ e a w, e ≠ .normal → Q' e a w → False) (h : ∀ a w, K a w → K' a w)
    (hh : o.wpIn F n P a w K Q') : o.wpIn F n P a w K' Q := by
  unfold Oper.wpIn at *
  refine ⟨hh.1, ?_⟩
  have hh := hh.2
  have hout : LetsOut Q' → False := fun ⟨a, w, q⟩ => hQ _ a w (by simp) q
  generalize (o.semAt F.round a.eval).run P w = r at *
  cases r with
  | ok x w' =>
    cases x <;> simp only [Oper.uponIn] at hh ⊢ <;>
      first
        | exact h _ _ hh
        | exact ⟨hh.1, CallsIn.mono hh.2 (fun e w'' he => by cases e <;> first | exact h _ _ he | exact (hQ _ _ _ (by simp) he).elim | exact (hout he).elim)⟩
        | exact ⟨hh.1, RowsIn.mono hh.2 (fun _ _ he => h _ _ he)⟩
        | exact ⟨hh.1, RoundIn.mono hh.2 (fun e w'' he => by cases e <;> first | exact h _ _ he | exact (hQ _ _ _ (by simp) he).elim | exact (hout he).elim)⟩
  | halt x w' => cases x <;> simp only [Oper.uponIn] at hh ⊢ <;> first | exact hh | exact (hQ _ _ _ (by simp) hh).elim
theorem wpAnyIn_more {F : Fence} {n : Nat} {P : Program} {md : Region.Mode} {ops : Array Oper} {Q : Exit → Act → World → Prop} : ∀ (fuel : Nat) {listed : Array Bool} {a : Act} {w : World}, wpAnyIn F n P md ops Q fuel listed a w → wpAnyIn F n P md ops Q (fuel + 1) listed a w
  | 0, listed, a, w, h => ⟨fun _ => h.2, fun i hi => by rw [h.1] at hi; cases hi⟩
  | fuel + 1, listed, a, w, h => ⟨h.1, fun i hi => wpOpIn_mono (fun _ _ => wpAnyIn_more fuel) (h.2 i hi)⟩
theorem wpAnyIn_most {F : Fence} {n : Nat} {P : Program} {md : Region.Mode} {ops : Array Oper} {Q : Exit → Act → World → Prop} {fuel : Nat} {listed : Array Bool} {a : Act} {w : World} (h : wpAnyIn F n P md ops Q fuel listed a w) : ∀ k, wpAnyIn F n P md ops Q (k + fuel) listed a w
  | 0 => by rw [Nat.zero_add]; exact h
  | k + 1 => by rw [Nat.add_right_comm]; exact wpAnyIn_more _ (wpAnyIn_most h k)

theorem holdsTo_ok : ∀ {n : Nat} {l : List Nat}, holdsTo n l = true → ∀ i, i < n → i ∈ l
  | 0, l, h, i, hi => by omega
  | n + 1, l, h, i, hi => by
    unfold holdsTo at h
    rw [Bool.and_eq_true] at h
    by_cases q : i = n
    · subst q
      obtain ⟨x, hx, he⟩ := List.any_eq_true.1 h.1
      rw [Nat.eq_of_beq_eq_true he]
      exact hx
    · exact holdsTo_ok h.2 i (by omega)
theorem wellIn_ok {m : Nat} : ∀ {l : List Oper}, wellIn m l = true → ∀ o ∈ l, ∀ j b, o.guard = some (j, b) → j < m
  | [], h, o, ho => by cases ho
  | x :: l, h, o, ho => by
    unfold wellIn at h
    simp only [Bool.and_eq_true] at h
    rcases List.mem_cons.1 ho with rfl | ho
    · intro j b hg
      have := h.1
      rw [hg] at this
      exact Nat.blt_eq ▸ this
    · exact wellIn_ok h.2 o ho
theorem fwd_ok : ∀ {l : List Oper} {k : Nat}, fwd k l = true → ∀ i o, l[i]? = some o → ∀ p ∈ edgesOf o, p < k + i
  | [], k, h, i, o, ho => by simp at ho
  | x :: l, k, h, i, o, ho => by
    unfold fwd at h
    rw [Bool.and_eq_true] at h
    cases i with
    | zero =>
      simp only [List.getElem?_cons_zero, Option.some.injEq] at ho
      subst ho
      intro p hp
      have := List.all_eq_true.1 h.1 p hp
      exact Nat.blt_eq ▸ this
    | succ i =>
      rw [List.getElem?_cons_succ] at ho
      intro p hp
      have := fwd_ok h.2 i o ho p hp
      omega

section
variable {F : Fence} {n : Nat} {P : Program} {ops : Array Oper} {Q : Exit → Act → World → Prop} {m : Nat}
abbrev ahead (listed : Array Bool) : Array Bool := listed ++ #[false, false, false]
theorem ahead_lt {listed : Array Bool} {i : Nat} (h : i < listed.size) (d : Bool) : (ahead listed).getD i d = listed.getD i d := by
  simp [Array.getElem?_append, h]
theorem ahead_set {listed : Array Bool} {i : Nat} (h : i < listed.size) : (ahead listed).setIfInBounds i true = ahead (listed.setIfInBounds i true) := by
  unfold ahead
  rw [Array.setIfInBounds_append, if_pos h]
/-- What stands ahead is gone through first. -/
theorem cut_any (hsz : ops.size = m + 3) (hpre : ∀ i o, i < m → ops[i]? = some o → (∀ j b, o.guard = some (j, b) → j < m) ∧ ∀ p ∈ edgesOf o, p < m) (hord : ∀ i o, i < m → ops[i]? = some o → ∀ p ∈ edgesOf o, p < i)
    (htail : ∀ i o, m ≤ i → ops[i]? = some o → ∀ p, p < m → p ∈ edgesOf o) :
    ∀ (fuel : Nat) (listed : Array Bool) (a : Act) (w : World), listed.size = m →
      wpAnyIn F n P .any (ops.extract 0 m) (fun e a w => e = .normal ∧ wpAnyIn F n P .any ops Q 3 (ahead (Array.replicate m true)) a w) fuel listed a w → wpAnyIn F n P .any ops Q (fuel + 3) (ahead listed) a w := by
  have hget : ∀ {i : Nat}, i < m → (ops.extract 0 m)[i]? = ops[i]? := fun {i} hi => by
    rw [Array.getElem?_extract]
    simp
    omega
  have hall : ∀ {listed : Array Bool}, listed.size = m → (∀ i, i < m → listed.getD i true = true) → listed = Array.replicate m true := fun {listed} h1 h2 => by
    apply Array.ext
    · simp [h1]
    · intro i q1 q2
      have := h2 i (by omega)
      simp only [Array.getD_eq_getD_getElem?, q1, getElem?_pos, Option.getD_some] at this
      rw [this]
      simp
  have hdone : ∀ {listed : Array Bool}, listed.size = m → Region.ready .any (ops.extract 0 m) listed = [] → listed = Array.replicate m true := fun {listed} h1 h2 => by
    refine hall h1 (fun i => ?_)
    induction i using Nat.strongRecOn with
    | ind i ih =>
      intro hi
      cases hq : listed.getD i true with
      | true => rfl
      | false =>
        exfalso
        have hlt : i < ops.size := by omega
        have : i ∈ Region.ready .any (ops.extract 0 m) listed := mem_ready.2 ⟨hq, ops[i], by rw [hget hi]; simp [hlt], fun e he hb => by
          have hp : e.on < i := hord i ops[i] hi (by simp [hlt]) e.on (mem_edges.2 ⟨e, he, hb, rfl⟩)
          have := ih e.on hp (by omega)
          simp only [Array.getD_eq_getD_getElem?] at this ⊢
          rw [Array.getElem?_eq_getElem (by omega)] at this ⊢
          exact this⟩
        rw [h2] at this
        cases this
  intro fuel
  induction fuel with
  | zero =>
    intro listed a w hl h
    obtain ⟨h1, _, h2⟩ := h
    have := hdone hl h1
    rw [← this] at h2
    exact wpAnyIn_most h2 0
  | succ fuel ih =>
    intro listed a w hl h
    have hready : ∀ i, i < m → i ∈ Region.ready .any ops (ahead listed) → i ∈ Region.ready .any (ops.extract 0 m) listed := fun i hi hr => by
      obtain ⟨h1, o, ho, h2⟩ := mem_ready.1 hr
      refine mem_ready.2 ⟨by rw [← ahead_lt (by omega)]; exact h1, o, by rw [hget hi]; exact ho, fun e he hb => ?_⟩
      rw [← ahead_lt (by have := (hpre i o hi ho).2 e.on (mem_edges.2 ⟨e, he, hb, rfl⟩); omega)]
      exact h2 e he hb
    have fin : (∀ i, i < m → listed.getD i true = true) → wpAnyIn F n P .any ops Q (fuel + 1 + 3) (ahead listed) a w := fun q => by
      have e1 := hall hl q
      have hnil : Region.ready .any (ops.extract 0 m) listed = [] := by
        cases hq : Region.ready .any (ops.extract 0 m) listed with
        | nil => rfl
        | cons i r =>
          have hi : i ∈ Region.ready .any (ops.extract 0 m) listed := by rw [hq]; simp
          obtain ⟨k1, o, ho, _⟩ := mem_ready.1 hi
          have : i < m := by
            have := (Array.getElem?_eq_some_iff.1 ho).1
            simp at this
            omega
          rw [q i this] at k1
          cases k1
      obtain ⟨_, h2⟩ := h.1 hnil
      rw [← e1] at h2
      exact wpAnyIn_most h2 (fuel + 1)
    by_cases hq : ∀ i, i < m → listed.getD i true = true
    · exact fin hq
    · obtain ⟨i0, hi0, hn0⟩ : ∃ i, i < m ∧ listed.getD i true = false := by
        apply Classical.byContradiction
        intro hno
        apply hq
        intro i hi
        cases hb : listed.getD i true with
        | true => rfl
        | false => exact absurd ⟨i, hi, hb⟩ hno
      refine ⟨fun hnil => ?_, fun i hi => ?_⟩
      · -- something is ready
        exfalso
        have hsub : Region.ready .any (ops.extract 0 m) listed = [] := by
          cases hq2 : Region.ready .any (ops.extract 0 m) listed with
          | nil => rfl
          | cons j r =>
            have hj : j ∈ Region.ready .any (ops.extract 0 m) listed := by rw [hq2]; simp
            obtain ⟨k1, o, ho, k2⟩ := mem_ready.1 hj
            have hjm : j < m := by
              have := (Array.getElem?_eq_some_iff.1 ho).1
              simp at this
              omega
            rw [hget hjm] at ho
            have : j ∈ Region.ready .any ops (ahead listed) := mem_ready.2 ⟨by rw [ahead_lt (by omega)]; exact k1, o, ho, fun e he hb => by
              rw [ahead_lt (by have := (hpre j o hjm ho).2 e.on (mem_edges.2 ⟨e, he, hb, rfl⟩); omega)]
              exact k2 e he hb⟩
            rw [hnil] at this
            cases this
        have := hdone hl hsub
        rw [this] at hn0
        simp [hi0] at hn0
      · by_cases him : i < m
        · have hi' := hready i him hi
          have := h.2 i hi'
          unfold wpOpIn at this ⊢
          rw [hget him] at this
          obtain ⟨_, o, ho, _⟩ := mem_ready.1 hi
          rw [ho] at this ⊢
          simp only at this ⊢
          have hy : Region.wanted o (yielded (ops.extract 0 m) a.tmps) = Region.wanted o (yielded ops a.tmps) := by
            unfold Region.wanted
            cases hg : o.guard with
            | none => rfl
            | some p =>
              obtain ⟨j, b⟩ := p
              have := (hpre i o him ho).1 j b hg
              simp only [yielded, hget this]
          rw [hy] at this
          have hk : ∀ a w, wpAnyIn F n P .any (ops.extract 0 m) (fun e a w => e = .normal ∧ wpAnyIn F n P .any ops Q 3 (ahead (Array.replicate m true)) a w) fuel (listed.setIfInBounds i true) a w → wpAnyIn F n P .any ops Q (fuel + 3) ((ahead listed).setIfInBounds i true) a w := fun a w hh => by
            rw [ahead_set (by omega)]
            exact ih _ a w (by simp [hl]) hh
          split at this
          · rename_i hw
            rw [if_pos hw]
            exact Oper.wpIn_swap (fun e a w he q => he q.1) hk this
          · rename_i hw
            rw [if_neg hw]
            exact ⟨this.1, hk _ _ this.2⟩
        · exfalso
          obtain ⟨_, o, ho, h2⟩ := mem_ready.1 hi
          obtain ⟨e, he, hb, heq⟩ := mem_edges.1 (htail i o (by omega) ho i0 hi0)
          have := h2 e he hb
          rw [heq, ahead_lt (by omega)] at this
          simp only [Array.getD_eq_getD_getElem?] at this hn0
          rw [Array.getElem?_eq_getElem (by omega)] at this hn0
          simp only [Option.getD_some] at this hn0
          rw [this] at hn0
          cases hn0
end

section
variable {E : Env} {γ : Cx} {N B nt : Nat} {w : World} {F : Fr} {a : Act} {ρ : Option Nat} {call : CallF} {ops : Array Oper}
theorem op_ok (hcall : CallOk E call) (hnum : NumOk call) (ok : TyOk E) {Q : Exit → Act → World → Prop} {i : Nat} {o : Oper} (hi : ops[i]? = some o) {H : AH} {s : St} (ho : exOne E call nt ops o F H = some s) (hn : s.H.n = H.n) (hs : SR E γ N B nt F H.bs.get a w) {K : Act → World → Prop}
    (hK : ∀ γ' a' w', SR E γ' N B nt s.F s.H.bs.get a' w' → Nxt γ H.bs.get w H.n γ' s.H.bs.get w' s.H.n → K a' w') : wpOpIn (rd ρ) 0 E.P ops Q i K a w := by
  unfold wpOpIn
  rw [hi]
  exact exOne_ok hcall hnum ok ho hs (fun id h1 h2 => by omega) hK
theorem one_plain {o : Oper} (hg : o.guard = none) (H : AH) : exOne E call nt ops o F H = match exOp E F o.op H with
    | some r => finA call nt F o.dst r
    | none => none := by
  unfold exOne wantedA
  rw [hg]
  rfl
theorem store_one {o : Oper} {t : TypeId} {x y : Operand} (hg : o.guard = none) (hd : o.dst = none) (ho : o.op = .store t x y) {H : AH} {s : St} (h : exOne E call nt ops o F H = some s) :
    ∃ b off l, opA F x = some (.ptr b off) ∧ storeA H b off l = some s.H ∧ s.F = F ∧ ∀ (G : Fr), Agree G F (slotsOf [x, y]) → ∀ H' H'', storeA H' b off l = some H'' → exOne E call nt ops o G H' = some ⟨G, H''⟩ := by
  rw [one_plain hg, ho] at h
  simp only [exOp, storeX] at h
  split at h
  · rename_i r hr
    split at hr
    · rename_i b off hx
      split at hr
      · rename_i v i hv hi
        split at hr
        · rename_i hlen
          split at hr
          · rename_i H' hst
            simp only [Option.some.injEq] at hr
            subst hr
            rw [hd] at h
            simp only [finA, putA, Option.some.injEq] at h
            subst h
            refine ⟨b, off, v.cells, hx, hst, rfl, fun G hG H1 H2 h12 => ?_⟩
            have hr := hG
            simp only [slotsOf, List.append_nil] at hr
            rw [one_plain hg, ho]
            simp only [exOp, storeX, opA_reads hr.left, opA_reads hr.right, hx, hv, hi, if_pos hlen, h12, hd, finA, putA]
          · cases hr
        · cases hr
      · cases hr
    · cases hr
  · cases h
theorem storeA_some {H H' : AH} {b o : Nat} {l : List AV} (h : storeA H b o l = some H') : ∃ k, H.bs.get b = some k ∧ (o + l.length ≤ k.len && l.all okc) = true ∧ H' = ⟨H.n, H.bs.set b ⟨k.len, k.cells.put o l⟩⟩ := by
  unfold storeA at h
  split at h
  · rename_i k hk
    split at h
    · rename_i hc
      simp only [Option.some.injEq] at h
      exact ⟨k, hk, by simpa using hc, h.symm⟩
    · cases h
  · cases h
theorem storeA_of {H : AH} {b o : Nat} {l : List AV} {k : Blk} (h1 : H.bs.get b = some k) (h2 : (o + l.length ≤ k.len && l.all okc) = true) : storeA H b o l = some ⟨H.n, H.bs.set b ⟨k.len, k.cells.put o l⟩⟩ := by
  unfold storeA
  rw [h1]
  simp only
  rw [if_pos (by simpa using h2)]
theorem store_swap {H H1 H2 : AH} {b c o o' : Nat} {l l' : List AV} (hbc : b ≠ c) (h1 : storeA H b o l = some H1) (h2 : storeA H1 c o' l' = some H2) :
    ∃ H3, storeA H c o' l' = some H3 ∧ ∃ H4, storeA H3 b o l = some H4 ∧ H3.n = H.n ∧ H4.n = H.n ∧ H1.n = H.n ∧ H2.n = H.n ∧ H4.bs.get = H2.bs.get := by
  obtain ⟨k, a1, a2, rfl⟩ := storeA_some h1
  obtain ⟨k', b1, b2, rfl⟩ := storeA_some h2
  simp only [Tr.get_set, if_neg hbc] at b1
  refine ⟨_, storeA_of b1 b2, _, storeA_of (H := ⟨H.n, H.bs.set c ⟨k'.len, k'.cells.put o' l'⟩⟩) (by simp only [Tr.get_set, if_neg (Ne.symm hbc)]; exact a1) a2, rfl, rfl, rfl, rfl, ?_⟩
  funext id
  simp only [Tr.get_set]
  by_cases e1 : b = id
  · subst e1
    simp [Ne.symm hbc]
  · by_cases e2 : c = id
    · subst e2
      simp [hbc]
    · simp [e1, e2]

abbrev stT (m : Nat) (x y z : Bool) : Array Bool := Array.replicate m true ++ #[x, y, z]
theorem stT_get (m : Nat) (x y z d : Bool) (i : Nat) : (stT m x y z).getD i d = if i < m then true else if i = m then x else if i = m + 1 then y else if i = m + 2 then z else d := by
  simp only [stT, Array.getD_eq_getD_getElem?, Array.getElem?_append, Array.size_replicate, Array.getElem?_replicate]
  by_cases h : i < m
  · simp [h]
  · simp only [h, if_false]
    obtain ⟨j, rfl⟩ : ∃ j, i = m + j := ⟨i - m, by omega⟩
    have e : m + j - m = j := by omega
    rw [e]
    rcases j with _ | _ | _ | j
    · simp
    · simp
    · simp
    · have e1 : ¬ m + (j + 3) = m := by omega
      have e2 : ¬ m + (j + 3) = m + 1 := by omega
      have e3 : ¬ m + (j + 3) = m + 2 := by omega
      rw [if_neg e1, if_neg e2, if_neg e3]
      simp
theorem stT_set0 (m : Nat) (x y z : Bool) : (stT m x y z).setIfInBounds m true = stT m true y z := by
  simp [stT, Array.setIfInBounds_append]
theorem stT_set1 (m : Nat) (x y z : Bool) : (stT m x y z).setIfInBounds (m + 1) true = stT m x true z := by
  simp [stT, Array.setIfInBounds_append]
theorem stT_set2 (m : Nat) (x y z : Bool) : (stT m x y z).setIfInBounds (m + 2) true = stT m x y true := by
  simp [stT, Array.setIfInBounds_append]

theorem tail_any (hcall : CallOk E call) (hnum : NumOk call) (ok : TyOk E) {m : Nat} (hsz : ops.size = m + 3) {p q r : Oper} (hp : ops[m]? = some p) (hq : ops[m + 1]? = some q) (hr : ops[m + 2]? = some r) (ht : tailOk E.ty m p q r = true)
    (hord : ∀ i o, ops[i]? = some o → ∀ e ∈ edgesOf o, e < i) {H : AH} {s : St} (h : exTail E call nt ops p q r F H = some s) {Q : Exit → Act → World → Prop} (hs : SR E γ N B nt F H.bs.get a w)
    (K : ∀ γ' a' w', SR E γ' N B nt s.F s.H.bs.get a' w' → Nxt γ H.bs.get w H.n γ' s.H.bs.get w' s.H.n → Q .normal a' w') : wpAnyIn (rd ρ) 0 E.P .any ops Q 3 (ahead (Array.replicate m true)) a w := by
  unfold tailOk at ht
  split at ht
  · rename_i t hpg hqg hrg hpd hqd hrd
    split at ht
    · rename_i t1 a1 x1 t2 a2 x2 hpk hqo hro
      simp only [Bool.and_eq_true] at ht
      obtain ⟨⟨⟨hpe, hqe⟩, hre⟩, hnt⟩ := ht
      unfold exTail at h
      split at h
      · cases h
      · rename_i s1 h1
        split at h
        · rename_i b c hb hc
          split at h
          · cases h
          · rename_i hbc
            split at h
            · cases h
            · rename_i s2 h2
              -- what each is
              have hp1 := h1
              rw [one_plain hpg] at hp1
              split at hp1
              · rename_i R hR
                obtain ⟨v, rfl, hall⟩ := pure_kind hpk hR
                obtain ⟨e1, hfv⟩ := fin_val hp1
                have hpH : ∀ H', exOne E call nt ops p F H' = some ⟨s1.F, H'⟩ := fun H' => by
                  rw [one_plain hpg, hall H']
                  exact hfv H'
                have hfr : ∀ u, u ≠ t → tmpA s1.F u = tmpA F u := fun u hu => by
                  unfold finA at hp1
                  simp only at hp1
                  split at hp1
                  · rename_i F' hput
                    simp only [Option.some.injEq] at hp1
                    rw [← hp1, put_frame hput, hpd, if_neg (by simpa using Ne.symm hu)]
                  · cases hp1
                obtain ⟨b', off, l, k1, k2, k3, k4⟩ := store_one hqg hqd hqo h2
                obtain ⟨c', off', l', g1, g2, g3, g4⟩ := store_one hrg hrd hro h
                have eb : b = b' := by
                  rw [hqo] at hb
                  simp only [blockOf, k1, Option.some.injEq] at hb
                  exact hb.symm
                have ec : c = c' := by
                  rw [hro] at hc
                  rw [k3] at g1
                  simp only [blockOf, g1, Option.some.injEq] at hc
                  exact hc.symm
                subst eb ec
                rw [e1] at k2
                obtain ⟨H3, w1, H4, w2, n3, n4, n1, n2, w3⟩ := store_swap (Nat.ne_of_beq_eq_false hbc) k2 g2
                have refl : ∀ G : Fr, Agree G G (slotsOf [a1, x1]) := fun G u _ => rfl
                have agF : Agree F s1.F (slotsOf [a2, x2]) := fun u hu => (hfr u (fun e => by
                  subst e
                  have := hnt
                  rw [Bool.not_eq_true', List.any_eq_false] at this
                  exact this u hu (Nat.beq_refl u))).symm
                rw [k3] at g4
                have r1 : exOne E call nt ops r s1.F H = some ⟨s1.F, H3⟩ := g4 s1.F (fun u _ => rfl) H H3 w1
                have r0 : exOne E call nt ops r F H = some ⟨F, H3⟩ := g4 F agF H H3 w1
                have q3 : exOne E call nt ops q s1.F H3 = some ⟨s1.F, H4⟩ := k4 s1.F (fun u _ => rfl) H3 H4 w2
                have eF : s.F = s1.F := g3.trans k3
                -- what is ready
                have inr : ∀ {x y z : Bool} {i : Nat}, i ∈ Region.ready .any ops (stT m x y z) → (i = m ∧ x = false) ∨ (i = m + 1 ∧ y = false ∧ x = true) ∨ (i = m + 2 ∧ z = false) := fun {x y z i} hi => by
                  obtain ⟨j1, o, ho, j2⟩ := mem_ready.1 hi
                  rw [stT_get] at j1
                  by_cases e0 : i < m
                  · simp [e0] at j1
                  rw [if_neg e0] at j1
                  by_cases e1 : i = m
                  · rw [if_pos e1] at j1; exact .inl ⟨e1, j1⟩
                  rw [if_neg e1] at j1
                  by_cases e2 : i = m + 1
                  · rw [if_pos e2] at j1
                    subst e2
                    have : o = q := by rw [hq] at ho; simpa using ho.symm
                    subst this
                    obtain ⟨e, he, hb, heq⟩ := mem_edges.1 (holdsTo_ok hqe m (by omega))
                    have := j2 e he hb
                    rw [heq, stT_get] at this
                    simp at this
                    exact .inr (.inl ⟨rfl, j1, this⟩)
                  rw [if_neg e2] at j1
                  by_cases e3 : i = m + 2
                  · rw [if_pos e3] at j1; exact .inr (.inr ⟨e3, j1⟩)
                  · rw [if_neg e3] at j1; cases j1
                have rdy : ∀ {x y z : Bool} {i : Nat} {o : Oper}, ops[i]? = some o → (stT m x y z).getD i true = false → (∀ j, j < i → (stT m x y z).getD j false = true) → Region.ready .any ops (stT m x y z) ≠ [] := fun {x y z i o} ho j1 j2 hnil => by
                  have : i ∈ Region.ready .any ops (stT m x y z) := mem_ready.2 ⟨j1, o, ho, fun e he hb => j2 e.on (hord i o ho e.on (mem_edges.2 ⟨e, he, hb, rfl⟩))⟩
                  rw [hnil] at this
                  cases this
                have rdy0 : ∀ {y z : Bool}, Region.ready .any ops (stT m false y z) ≠ [] := fun {y z} => rdy hp (by rw [stT_get]; simp) (fun j hj => by rw [stT_get]; simp [hj])
                have rdy1 : ∀ {z : Bool}, Region.ready .any ops (stT m true false z) ≠ [] := fun {z} => rdy hq (by rw [stT_get]; simp) (fun j hj => by
                  rw [stT_get]
                  by_cases e0 : j < m
                  · simp [e0]
                  · have : j = m := by omega
                    simp [this])
                have rdy2 : Region.ready .any ops (stT m true true false) ≠ [] := rdy hr (by rw [stT_get]; simp) (fun j hj => by
                  rw [stT_get]
                  by_cases e0 : j < m
                  · simp [e0]
                  · by_cases e1 : j = m
                    · simp [e1]
                    · have : j = m + 1 := by omega
                      simp [this])
                have done : Region.ready .any ops (stT m true true true) = [] := by
                  cases hl : Region.ready .any ops (stT m true true true) with
                  | nil => rfl
                  | cons i l =>
                    have : i ∈ Region.ready .any ops (stT m true true true) := by rw [hl]; simp
                    rcases inr this with ⟨_, q⟩ | ⟨_, q, _⟩ | ⟨_, q⟩ <;> cases q
                have e0 : s1.H.n = H.n := by rw [e1]
                have e2 : s2.H.n = s1.H.n := by rw [n1, e0]
                have e3 : s.H.n = s2.H.n := by rw [n2, n1]
                show wpAnyIn (rd ρ) 0 E.P .any ops Q 3 (stT m false false false) a w
                refine ⟨fun hnil => absurd hnil rdy0, fun i hi => ?_⟩
                rcases inr hi with ⟨rfl, _⟩ | ⟨_, _, q⟩ | ⟨rfl, _⟩
                · refine op_ok hcall hnum ok hp h1 e0 hs fun γ1 a1 w1 hs1 hx1 => ?_
                  rw [stT_set0]
                  refine ⟨fun hnil => absurd hnil rdy1, fun i hi => ?_⟩
                  rcases inr hi with ⟨_, q⟩ | ⟨rfl, _, _⟩ | ⟨rfl, _⟩
                  · cases q
                  · refine op_ok hcall hnum ok hq h2 e2 hs1 fun γ2 a2 w2 hs2 hx2 => ?_
                    rw [stT_set1]
                    refine ⟨fun hnil => absurd hnil rdy2, fun i hi => ?_⟩
                    rcases inr hi with ⟨_, q⟩ | ⟨_, q, _⟩ | ⟨rfl, _⟩
                    · cases q
                    · cases q
                    · refine op_ok hcall hnum ok hr h e3 hs2 fun γ3 a3 w3 hs3 hx3 => ?_
                      rw [stT_set2]
                      exact ⟨done, K _ _ _ hs3 ((hx1.trans hx2).trans hx3)⟩
                  · rw [e1] at hs1 hx1
                    refine op_ok hcall hnum ok hr r1 n3 hs1 fun γ2 a2 w2 hs2 hx2 => ?_
                    rw [stT_set2]
                    refine ⟨fun hnil => absurd hnil rdy1, fun i hi => ?_⟩
                    rcases inr hi with ⟨_, q⟩ | ⟨rfl, _, _⟩ | ⟨_, q⟩
                    · cases q
                    · refine op_ok hcall hnum ok hq q3 (n4.trans n3.symm) hs2 fun γ3 a3 w3' hs3 hx3 => ?_
                      rw [stT_set1]
                      refine ⟨done, K γ3 a3 w3' ?_ ?_⟩
                      · rw [eF, ← w3]; exact hs3
                      · have := (hx1.trans hx2).trans hx3
                        simp only at this
                        rw [w3, n4.trans n2.symm] at this
                        exact this
                    · cases q
                · cases q
                · refine op_ok hcall hnum ok hr r0 n3 hs fun γ1 a1 w1 hs1 hx1 => ?_
                  rw [stT_set2]
                  refine ⟨fun hnil => absurd hnil rdy0, fun i hi => ?_⟩
                  rcases inr hi with ⟨rfl, _⟩ | ⟨_, _, q⟩ | ⟨_, q⟩
                  · refine op_ok hcall hnum ok hp (hpH H3) rfl hs1 fun γ2 a2 w2 hs2 hx2 => ?_
                    rw [stT_set0]
                    refine ⟨fun hnil => absurd hnil rdy1, fun i hi => ?_⟩
                    rcases inr hi with ⟨_, q⟩ | ⟨rfl, _, _⟩ | ⟨_, q⟩
                    · cases q
                    · refine op_ok hcall hnum ok hq q3 (n4.trans n3.symm) hs2 fun γ3 a3 w3' hs3 hx3 => ?_
                      rw [stT_set1]
                      refine ⟨done, K γ3 a3 w3' ?_ ?_⟩
                      · rw [eF, ← w3]; exact hs3
                      · have := (hx1.trans hx2).trans hx3
                        simp only at this
                        rw [w3, n4.trans n2.symm] at this
                        exact this
                    · cases q
                  · cases q
                  · cases q
              · cases hp1
        · cases h
    · cases ht
  · cases ht
end

theorem draw_ok {E : Env} (ok : TyOk E) (hm : E.P.follows .mixedOrders = true) {call : CallF} {nt : Nat} (hcall : CallOk E call) (hnum : NumOk call) : DrawOk E nt call := by
  intro ops id F H s h γ N B ρ a w Q hs hf K
  unfold exReg at h
  simp only at h
  refine wpIn_region_any hm ?_
  have hs' : SR E γ N B nt F H.bs.get a { w with drawn := w.drawn + 1 } := ⟨hs.rel.heap rfl, hs.fr, hs.low, hs.size, hs.defs.base, hs.defs.nd, fun d hd => hs.defs.each d hd⟩
  have hx0 : Nxt γ H.bs.get w H.n γ H.bs.get { w with drawn := w.drawn + 1 } H.n := Nxt.heap (γ := γ) (H := H.bs.get) (w := w) (w' := { w with drawn := w.drawn + 1 }) H.n rfl
  split at h
  · rename_i L hL
    exact any_ok ok hcall hnum hL h hs' hf (fun γ' a' w' h1 h2 => K _ _ _ h1 (hx0.trans h2))
  · split at h
    · rename_i L p q r hcut
      split at h
      · rename_i s1 h1
        unfold cutOf at hcut
        split at hcut
        · rename_i m hsz
          split at hcut
          · rename_i p' q' r' hp hq hr
            split at hcut
            · rename_i hc
              split at hcut
              · rename_i L' hL
                simp only [Option.some.injEq, Prod.mk.injEq] at hcut
                obtain ⟨rfl, rfl, rfl, rfl⟩ := hcut
                simp only [Bool.and_eq_true] at hc
                obtain ⟨⟨ht, hw⟩, hfw⟩ := hc
                have hm3 : ops.size - 3 = m := by omega
                rw [hm3] at h1
                have hord : ∀ i o, ops[i]? = some o → ∀ e ∈ edgesOf o, e < i := fun i o ho e he => by
                  have := fwd_ok hfw i o (by rw [Array.getElem?_toList]; exact ho) e he
                  omega
                have n1 := exDraw_num hnum h1
                have n2 := exTail_num hnum h
                have hg : ∀ i o, i < m → ops[i]? = some o → ∀ j b, o.guard = some (j, b) → j < m := fun i o hi ho => wellIn_ok hw o (List.mem_of_getElem? (i := i) (by rw [List.getElem?_take, if_pos hi, Array.getElem?_toList]; exact ho))
                have tl : ∀ i o, m ≤ i → ops[i]? = some o → ∀ p, p < m → p ∈ edgesOf o := fun i o hi ho p hp' => by
                  have hlt := (Array.getElem?_eq_some_iff.1 ho).1
                  have ht' := ht
                  unfold tailOk at ht'
                  split at ht'
                  · split at ht'
                    · simp only [Bool.and_eq_true] at ht'
                      obtain ⟨⟨⟨a1, a2⟩, a3⟩, _⟩ := ht'
                      rcases (by omega : i = m ∨ i = m + 1 ∨ i = m + 2) with rfl | rfl | rfl
                      · rw [hp] at ho; simp only [Option.some.injEq] at ho; subst ho; exact holdsTo_ok a1 p hp'
                      · rw [hq] at ho; simp only [Option.some.injEq] at ho; subst ho; exact holdsTo_ok a2 p (by omega)
                      · rw [hr] at ho; simp only [Option.some.injEq] at ho; subst ho; exact holdsTo_ok a3 p hp'
                    · cases ht'
                  · cases ht'
                rw [hsz]
                have hrep : Array.replicate (m + 3) false = ahead (Array.replicate m false) := by
                  apply Array.ext'
                  simp [ahead, List.replicate_succ', List.append_assoc]
                rw [hrep]
                have hes : (ops.extract 0 m).size = m := by simp; omega
                refine cut_any hsz (fun i o hi ho => ⟨hg i o hi ho, fun p hp => by have := hord i o ho p hp; omega⟩) (fun i o _ ho => hord i o ho) tl m (Array.replicate m false) a _ (by simp) ?_
                have := any_ok (ρ := ρ) (Q := fun e a w => e = .normal ∧ wpAnyIn (rd ρ) 0 E.P .any ops Q 3 (ahead (Array.replicate m true)) a w) ok hcall hnum hL h1 hs' (fun id k1 k2 => hf id k1 (by omega)) (fun γ' a' w' g1 g2 => ⟨rfl, tail_any hcall hnum ok hsz hp hq hr ht hord h g1 (fun γ2 a2 w2 g3 g4 => K _ _ _ g3 ((hx0.trans g2).trans g4))⟩)
                rw [hes] at this
                exact this
              · cases hcut
            · cases hcut
          · cases hcut
        · cases hcut
      · cases h
    · cases h
end Go.Proofs.YteopodohghnokaaGreatDoor.Ex
end
section
namespace Go.Proofs.YteopodohghnokaaGreatDoor.Ex
open Go
set_option linter.unusedVariables false
set_option linter.unusedSimpArgs false

theorem mkTys_ok {P : Program} : ∀ (n i : Nat) (t : Tr TI), (∀ {j x}, t.get j = some x → tiOf P j = some x) → ∀ {j x}, (mkTys P i n t).get j = some x → tiOf P j = some x
  | 0, i, t, h, j, x, hx => h hx
  | n + 1, i, t, h, j, x, hx => by
    simp only [mkTys] at hx
    refine mkTys_ok n (i + 1) _ (fun {j x} e => ?_) hx
    split at e
    · rename_i y hy
      rw [Tr.get_set] at e
      split at e
      · rename_i q; subst q; rw [hy]; exact e
      · exact h e
    · exact h e
theorem mkFns_ok : ∀ (l : List Func) (i : Nat) (t : Tr FI) (R : Nat → FI → Prop), (∀ {j x}, t.get j = some x → R j x) →
    (∀ k f c, l[k]? = some f → f.body = some c → f.name ≠ "runtime.NumGoroutine" → R (i + k) ⟨f.ntmps, f.results.toList, c⟩) → ∀ {j x}, (mkFns i l t).get j = some x → R j x
  | [], i, t, R, h, hr, j, x, hx => h hx
  | f :: l, i, t, R, h, hr, j, x, hx => by
    simp only [mkFns] at hx
    refine mkFns_ok l (i + 1) _ R (fun {j x} e => ?_) (fun k f' c a b d => ?_) hx
    · split at e
      · rename_i c hc
        split at e
        · exact h e
        · rename_i hn
          rw [Tr.get_set] at e
          split at e
          · rename_i q
            simp only [Option.some.injEq] at e
            subst q e
            exact hr 0 f c rfl hc (by simpa using hn)
          · exact h e
      · exact h e
    · have := hr (k + 1) f' c (by simpa using a) b d
      rwa [show i + 1 + k = i + (k + 1) by omega]

/-- A runner over a program. -/
def envOf (P : Program) (syms : Tr (Int × Int)) (globs : Tr AV) (hook : FuncId → List AV → AH → Option (AV × AH)) : Env :=
  { P, ty := mkTys P 0 P.types.size .nil, fn := mkFns 0 P.funcs.toList .nil, syms, globs, hook }
theorem envOf_ty (P : Program) (syms : Tr (Int × Int)) (globs : Tr AV) (hook : FuncId → List AV → AH → Option (AV × AH)) : TyOk (envOf P syms globs hook) :=
  ⟨fun {t i} h => mkTys_ok _ _ _ (fun e => (by rw [Tr.get_nil] at e; cases e)) h⟩
theorem envOf_fn (P : Program) (syms : Tr (Int × Int)) (globs : Tr AV) (hook : FuncId → List AV → AH → Option (AV × AH)) : FnOk (envOf P syms globs hook) :=
  ⟨fun {f i} h => mkFns_ok P.funcs.toList 0 .nil (fun f i => ∃ fn, P.funcs[f]? = some fn ∧ fn.body = some i.body ∧ fn.ntmps = i.ntmps ∧ fn.results.toList = i.results ∧ fn.name ≠ "runtime.NumGoroutine") (fun e => (by rw [Tr.get_nil] at e; cases e))
    (fun k f c a b d => ⟨f, by simpa using a, b, rfl, rfl, d⟩) h, fun g h => (by cases h)⟩
/-- The same, where some functions are quiet. -/
def envQ (P : Program) (syms : Tr (Int × Int)) (globs : Tr AV) (hook : FuncId → List AV → AH → Option (AV × AH)) (quiet : FuncId → Bool) : Env := { envOf P syms globs hook with quiet := quiet }
theorem envQ_ty (P : Program) (syms : Tr (Int × Int)) (globs : Tr AV) (hook : FuncId → List AV → AH → Option (AV × AH)) (quiet : FuncId → Bool) : TyOk (envQ P syms globs hook quiet) :=
  ⟨fun {t i} h => (envOf_ty P syms globs hook).ty h⟩
theorem envQ_fn (P : Program) (syms : Tr (Int × Int)) (globs : Tr AV) (hook : FuncId → List AV → AH → Option (AV × AH)) {quiet : FuncId → Bool} (hq : ∀ g, quiet g = true → QuietFn P g) : FnOk (envQ P syms globs hook quiet) :=
  ⟨fun {f i} h => (envOf_fn P syms globs hook).fn h, hq⟩

/-! ### internal/bytealg.IndexByteString -/
def firstA (c : Nat) : Nat → List UInt8 → Int
  | _, [] => -1
  | i, x :: l => match Nat.beq x.toNat c with
    | true => .ofNat i
    | false => firstA c (i + 1) l
theorem find_range (p : Nat → Bool) : ∀ (n i : Nat), ((List.range' i n).find? p) = match (List.range n).find? (fun j => p (i + j)) with
    | some j => some (i + j)
    | none => none
  | 0, i => rfl
  | n + 1, i => by
    rw [List.range'_succ, List.range_succ_eq_map, List.find?_cons, List.find?_cons]
    simp only [Nat.add_zero]
    cases p i with
    | true => rfl
    | false =>
      simp only
      rw [find_range p n (i + 1), List.find?_map]
      have : ((fun j => p (i + j)) ∘ Nat.succ) = fun j => p (i + 1 + j) := by
        funext j
        simp only [Function.comp, Nat.succ_eq_add_one]
        congr 1
        omega
      rw [this]
      cases (List.range n).find? (fun j => p (i + 1 + j)) with
      | none => rfl
      | some j => simp only [Option.map_some, Nat.succ_eq_add_one]; congr 1; omega
theorem firstA_ok (c : Nat) : ∀ (l : List UInt8) (i : Nat), firstA c i l = match (List.range l.length).find? (fun j => (l.getD j 0).toNat == c) with
    | some j => ((i + j : Nat) : Int)
    | none => -1
  | [], i => rfl
  | x :: l, i => by
    rw [List.length_cons, List.range_succ_eq_map, List.find?_cons]
    simp only [firstA, List.getD_cons_zero, Nat.add_zero]
    have hb : (x.toNat == c) = Nat.beq x.toNat c := by
      rw [Bool.eq_iff_iff, beq_iff_eq]
      exact ⟨fun e => by rw [e]; exact Nat.beq_refl c, Nat.eq_of_beq_eq_true⟩
    rw [hb]
    cases Nat.beq x.toNat c with
    | true => rfl
    | false =>
      simp only
      rw [firstA_ok c l (i + 1), List.find?_map]
      have : ((fun j => ((x :: l).getD j 0).toNat == c) ∘ Nat.succ) = fun j => (l.getD j 0).toNat == c := by
        funext j
        simp [Function.comp]
      rw [this]
      cases (List.range l.length).find? (fun j => (l.getD j 0).toNat == c) with
      | none => rfl
      | some j => simp only [Option.map_some, Nat.succ_eq_add_one]; congr 1; omega
theorem first_ok (l : List UInt8) (c : Int) (h0 : 0 ≤ c) (h1 : c ≤ 255) : firstIdx ⟨l.toArray⟩ c.toNat.toUInt8 = firstA c.toNat 0 l := by
  rw [firstA_ok]
  unfold firstIdx
  have hs : (⟨l.toArray⟩ : ByteArray).size = l.length := rfl
  rw [hs]
  have : (fun i => (⟨l.toArray⟩ : ByteArray)[i]! == c.toNat.toUInt8) = fun j => (l.getD j 0).toNat == c.toNat := by
    funext j
    have e1 : (⟨l.toArray⟩ : ByteArray)[j]! = l.getD j 0 := by
      by_cases hj : j < l.length
      · rw [getElem!_pos (⟨l.toArray⟩ : ByteArray) j hj, List.getD_eq_getElem?_getD, List.getElem?_eq_getElem hj]
        rfl
      · rw [getElem!_neg (⟨l.toArray⟩ : ByteArray) j hj, List.getD_eq_getElem?_getD, List.getElem?_eq_none (by omega)]
        rfl
    rw [e1]
    have hc : c.toNat < 256 := by omega
    have e2 : c.toNat.toUInt8.toNat = c.toNat := by simp; omega
    cases hq : (l.getD j 0).toNat == c.toNat with
    | true =>
      have : (l.getD j 0).toNat = c.toNat := by simpa using hq
      have : l.getD j 0 = c.toNat.toUInt8 := UInt8.toNat_inj.1 (by rw [e2]; exact this)
      rw [this]; simp
    | false =>
      have hne : (l.getD j 0).toNat ≠ c.toNat := by simpa using hq
      simp only [beq_eq_false_iff_ne, ne_eq]
      intro e
      apply hne
      rw [e, e2]
  rw [this]
  cases (List.range l.length).find? (fun j => (l.getD j 0).toNat == c.toNat) with
  | none => rfl
  | some j => simp

/-- What answers for Go's body-less functions. -/
def hookX (ib : FuncId) : FuncId → List AV → AH → Option (AV × AH) := fun f args H =>
  match Nat.beq f ib with
  | true => match args with
    | [.str s, .int .u8 (.ofNat c)] => if c ≤ 255 then some (.int .i64 (firstA c 0 s), H) else none
    | _ => none
  | false => none
structure ByteFn (P : Program) (ib : FuncId) : Prop where
  fn : ∃ fn, P.funcs[ib]? = some fn ∧ (fn.name == "runtime.NumGoroutine") = false ∧ fn.body.isNone = true ∧ Extern.findNext fn = none ∧ Extern.find fn = some Extern.BytealgIndexByte.indexByte
theorem hookX_num {E : Env} {ib : FuncId} (h : E.hook = hookX ib) : HookNum E := fun {f as H H' v} e => by
  rw [h] at e
  unfold hookX at e
  split at e
  · split at e
    · split at e
      · simp only [Option.some.injEq, Prod.mk.injEq] at e; rw [e.2]; exact Nat.le_refl _
      · cases e
    · cases e
  · cases e
theorem hookX_ok {E : Env} {ib : FuncId} (h : E.hook = hookX ib) (hb : ByteFn E.P ib) : HookOk E := fun {f as H H' v} e {γ N w as'} hrel hN hargs hf => by
  rw [h] at e
  unfold hookX at e
  split at e
  · rename_i hq
    have hq := Nat.eq_of_beq_eq_true hq
    subst hq
    split at e
    · rename_i s c
      split at e
      · rename_i hc
        simp only [Option.some.injEq, Prod.mk.injEq] at e
        obtain ⟨rfl, rfl⟩ := e
        cases hargs with
        | cons h1 h2 =>
          cases h2 with
          | cons h2 h3 =>
            cases h3
            cases h1
            cases h2
            obtain ⟨fn, f1, f2, f3, f4, f5⟩ := hb.fn
            unfold CallWp
            have : (callFunc f [Value.string ⟨s.toArray⟩, .int .u8 (Int.ofNat c)].toArray).run E.P w = .ok (.value (.int .i64 (firstA c 0 s))) w := by
              rw [run_callFunc_extern f1 f2 f3 f4 f5]
              have := run_indexByte_string (P := E.P) ⟨s.toArray⟩ (Int.ofNat c) w
              have e3 : [Value.string ⟨s.toArray⟩, .int .u8 (Int.ofNat c)].toArray = #[Value.string ⟨s.toArray⟩, .int .u8 (Int.ofNat c)] := rfl
              rw [e3, this]
              simp only [Result.andThen]
              rw [first_ok s (Int.ofNat c) (by simp) (by simp; omega)]
              rfl
            rw [this]
            exact ⟨γ, .int _ _, hrel, .refl _ _ _ _⟩
      · cases e
    · cases e
  · cases e

/-! ### What a run says -/
/-- A run from nothing: the call's end. -/
theorem run_law {E : Env} (ok : TyOk E) (fok : FnOk E) (hk : HookOk E) (hkn : HookNum E) (hm : E.P.follows .mixedOrders = true) {L n : Nat} {f : FuncId} {args : List AV} {H' : AH} {v : AV} (h : exF E L n f args ⟨0, .nil⟩ = some (v, H'))
    {γ : Cx} (hγ : ∀ i, γ.loc i = none) (hsym : ∀ {i : Nat} {lo hi : Int}, E.syms.get i = some (lo, hi) → lo ≤ γ.sym i ∧ γ.sym i ≤ hi) {args' : List Value} (hargs : VRs γ args args') {w : World}
    (hglob : ∀ {g : Nat} {v : AV}, E.globs.get g = some v → g < w.heap.size ∧ ∃ rv, w.cell? ⟨g, 0, none⟩ = some rv ∧ VR γ v rv) :
    CallWp E.P f args' w fun v' w' => (∃ γ', VR γ' v v') ∧ RowKit.Below w.heap.size w w' := by
  have hrel : Rel E γ w.heap.size (Tr.nil : Tr Blk).get w := ⟨fun {id k} hk => (by rw [Tr.get_nil] at hk; cases hk), fun {id l} hl => (by rw [hγ] at hl; cases hl), fun {i j k k' l l'} hk => (by rw [Tr.get_nil] at hk; cases hk), hglob, hsym⟩
  have hc := exF_ok (L := L) ok fok @hk @hkn (fun hcall hnum => draw_ok ok hm hcall hnum) n h hrel (Nat.le_refl _) hargs (fun id _ _ => hγ id)
  unfold CallWp at hc ⊢
  have key : ∀ {v' : Value} {w' : World}, (∃ γ', VR γ' v v' ∧ Rel E γ' w.heap.size H'.bs.get w' ∧ Nxt γ (Tr.nil : Tr Blk).get w 0 γ' H'.bs.get w' H'.n) → (∃ γ', VR γ' v v') ∧ RowKit.Below w.heap.size w w' := fun ⟨γ', a, b, c⟩ =>
    ⟨⟨γ', a⟩, ⟨c.still.os, c.still.tape, c.still.output, c.size, fun k hk => c.keep k hk (fun id k' l hk' => (by rw [Tr.get_nil] at hk'; cases hk'))⟩⟩
  split
  · rename_i v' w' he
    rw [he] at hc
    exact key hc
  · rename_i g as w' he
    rw [he] at hc
    refine Calls.mono hc ?_
    rintro e w'' ⟨v', rfl, q⟩
    exact ⟨v', rfl, key q⟩
  · rename_i hne1 hne2
    split at hc
    · rename_i he; exact absurd he (hne1 _ _)
    · rename_i he; exact absurd he (hne2 _ _ _)
    · exact hc
/-- A law that is true. -/
theorem law_true {E : Env} (ok : TyOk E) (fok : FnOk E) (hk : HookOk E) (hkn : HookNum E) (hm : E.P.follows .mixedOrders = true) {L n : Nat} {f : FuncId} {fn : Func} (hf : E.P.funcs[f]? = some fn) (hb : fn.body.isSome = true) (hnm : (fn.name == "runtime.NumGoroutine") = false) {args : List AV}
    (h : (match exF E L n f args ⟨0, .nil⟩ with
      | some (.bool b, _) => b
      | _ => false) = true)
    {γ : Cx} (hγ : ∀ i, γ.loc i = none) (hsym : ∀ {i : Nat} {lo hi : Int}, E.syms.get i = some (lo, hi) → lo ≤ γ.sym i ∧ γ.sym i ≤ hi) {args' : List Value} (hargs : VRs γ args args') {w : World}
    (hglob : ∀ {g : Nat} {v : AV}, E.globs.get g = some v → g < w.heap.size ∧ ∃ rv, w.cell? ⟨g, 0, none⟩ = some rv ∧ VR γ v rv) :
    Calls E.P f args'.toArray w fun e w' => e = .returned (.bool true) ∧ RowKit.Below w.heap.size w w' := by
  split at h
  · rename_i b H' he
    subst h
    have := run_law ok fok @hk @hkn hm he hγ hsym hargs hglob
    obtain ⟨c, hc⟩ := Option.isSome_iff_exists.1 hb
    unfold CallWp at this
    rw [callFunc_run hf hc (by simpa using hnm)] at this
    refine Calls.mono this ?_
    rintro e w' ⟨v', rfl, ⟨γ', hv⟩, hbel⟩
    cases hv
    exact ⟨rfl, hbel⟩
  · cases h
end Go.Proofs.YteopodohghnokaaGreatDoor.Ex
end
section
namespace Go.Proofs.YteopodohghnokaaGreatDoor.Ex
open Go
set_option linter.unusedVariables false
set_option linter.unusedSimpArgs false

def countA (c : Nat) : List UInt8 → Nat
  | [] => 0
  | x :: l => match Nat.beq x.toNat c with
    | true => countA c l + 1
    | false => countA c l
theorem fold_loop {β : Type} (f : β → UInt8 → β) (b : ByteArray) (h : b.size ≤ b.size) : ∀ (i j : Nat) (n : β), i + j = b.size → (ByteArray.foldlM.loop (m := _root_.Id) (β := β) (fun x y => f x y) b b.size h i j n) = (b.data.toList.drop j).foldl f n
  | 0, j, n, e => by
    rw [ByteArray.foldlM.loop]
    have : ¬ j < b.size := by omega
    rw [dif_neg this, List.drop_of_length_le (by show b.data.toList.length ≤ j; have : b.data.toList.length = b.size := rfl; omega)]
    rfl
  | i + 1, j, n, e => by
    rw [ByteArray.foldlM.loop]
    have hj : j < b.size := by omega
    rw [dif_pos hj]
    have hl : j < b.data.toList.length := by have : b.data.toList.length = b.size := rfl; omega
    rw [List.drop_eq_getElem_cons hl, List.foldl_cons]
    exact fold_loop f b h i (j + 1) _ (by omega)
theorem fold_bytes {β : Type} (f : β → UInt8 → β) (b : ByteArray) (n : β) : b.foldl f n = b.data.toList.foldl f n := by
  have := fold_loop f b (Nat.le_refl _) b.size 0 n (by omega)
  rw [List.drop_zero] at this
  rw [← this]
  unfold ByteArray.foldl ByteArray.foldlM
  simp only [Nat.le_refl, dif_pos, Nat.sub_zero]
  rfl
theorem count_fold (c : Nat) (hc : c < 256) : ∀ (l : List UInt8) (n : Int), l.foldl (fun n x => if x == c.toUInt8 then n + 1 else n) n = n + countA c l
  | [], n => by simp [countA]
  | x :: l, n => by
    rw [List.foldl_cons, count_fold c hc l]
    have e2 : c.toUInt8.toNat = c := by simp; omega
    simp only [countA]
    cases h : Nat.beq x.toNat c with
    | true =>
      have : x = c.toUInt8 := UInt8.toNat_inj.1 (by rw [e2]; exact Nat.eq_of_beq_eq_true h)
      rw [this]
      simp only [beq_self_eq_true, if_true]
      omega
    | false =>
      have : (x == c.toUInt8) = false := by
        simp only [beq_eq_false_iff_ne, ne_eq]
        intro e
        rw [e, e2, Nat.beq_refl] at h
        cases h
      rw [this]
      simp only [Bool.false_eq_true, if_false]
theorem callWp_mono {P : Program} {f : FuncId} {as : List Value} {w : World} {Q Q' : Value → World → Prop} (h : CallWp P f as w Q) (hq : ∀ v w', Q v w' → Q' v w') : CallWp P f as w Q' := by
  unfold CallWp at h ⊢
  split
  · rename_i v' w' he
    rw [he] at h
    exact hq _ _ h
  · rename_i g as w' he
    rw [he] at h
    refine Calls.mono h ?_
    rintro e w'' ⟨v', rfl, q⟩
    exact ⟨v', rfl, hq _ _ q⟩
  · rename_i hne1 hne2
    split at h
    · rename_i he; exact absurd he (hne1 _ _)
    · rename_i he; exact absurd he (hne2 _ _ _)
    · exact h
/-- What answers for Go's body-less functions. -/
def hookY (ib cs : FuncId) : FuncId → List AV → AH → Option (AV × AH) := fun f args H =>
  match Nat.beq f cs with
  | true => match args with
    | [.str s, .int .u8 (.ofNat c)] => if c ≤ 255 then some (.int .i64 (.ofNat (countA c s)), H) else none
    | _ => none
  | false => hookX ib f args H
structure CountFn (P : Program) (cs : FuncId) : Prop where
  fn : ∃ fn, P.funcs[cs]? = some fn ∧ (fn.name == "runtime.NumGoroutine") = false ∧ fn.body.isNone = true ∧ Extern.findNext fn = none ∧ Extern.find fn = some Extern.BytealgCount.count
theorem hookY_num {E : Env} {ib cs : FuncId} (h : E.hook = hookY ib cs) : HookNum E := fun {f as H H' v} e => by
  rw [h] at e
  unfold hookY at e
  split at e
  · split at e
    · split at e
      · simp only [Option.some.injEq, Prod.mk.injEq] at e; rw [e.2]; exact Nat.le_refl _
      · cases e
    · cases e
  · exact hookX_num (E := { E with hook := hookX ib }) (ib := ib) rfl e
theorem hookY_ok {E : Env} {ib cs : FuncId} (h : E.hook = hookY ib cs) (hb : ByteFn E.P ib) (hc : CountFn E.P cs) : HookOk E := fun {f as H H' v} e {γ N w as'} hrel hN hargs hf => by
  rw [h] at e
  unfold hookY at e
  split at e
  · rename_i hq
    have hq := Nat.eq_of_beq_eq_true hq
    subst hq
    split at e
    · rename_i s c
      split at e
      · rename_i hcc
        simp only [Option.some.injEq, Prod.mk.injEq] at e
        obtain ⟨rfl, rfl⟩ := e
        cases hargs with
        | cons h1 h2 =>
          cases h2 with
          | cons h2 h3 =>
            cases h3
            cases h1
            cases h2
            obtain ⟨fn, f1, f2, f3, f4, f5⟩ := hc.fn
            unfold CallWp
            have : (callFunc f [Value.string ⟨s.toArray⟩, .int .u8 (Int.ofNat c)].toArray).run E.P w = .ok (.value (.int .i64 (Int.ofNat (countA c s)))) w := by
              rw [run_callFunc_extern f1 f2 f3 f4 f5]
              have e3 : [Value.string ⟨s.toArray⟩, .int .u8 (Int.ofNat c)].toArray = #[Value.string ⟨s.toArray⟩, .int .u8 (Int.ofNat c)] := rfl
              rw [e3]
              have hfold := count_fold c (by omega) s 0
              have hb2 := fold_bytes (fun (n : Int) x => if x == c.toUInt8 then n + 1 else n) ⟨s.toArray⟩ 0
              have e4 : (⟨s.toArray⟩ : ByteArray).data.toList = s := by simp
              rw [e4, hfold, Int.zero_add] at hb2
              have hrun : (Extern.BytealgCount.count #[Value.string ⟨s.toArray⟩, .int .u8 (Int.ofNat c)]).run E.P w = .ok (.int .i64 (Int.ofNat (countA c s))) w := by
                change Sem.run E.P (do
                  let b ← Extern.Bytes.bytesOf (.string ⟨s.toArray⟩)
                  let c' ← Extern.Bytes.asByte (.int .u8 (Int.ofNat c))
                  pure (goInt (b.foldl (fun n x => if x == c' then n + 1 else n) (0 : Nat)))) w = _
                simp only [Extern.Bytes.bytesOf, Extern.Bytes.asByte, Sem.run_bind, Sem.run_pure, Result.andThen]
                have e5 : (Int.ofNat c).toNat.toUInt8 = c.toUInt8 := rfl
                rw [e5]
                show Result.ok (goInt (ByteArray.foldl (fun (n : Int) x => if x == c.toUInt8 then n + 1 else n) 0 ⟨s.toArray⟩)) w = _
                rw [hb2]
                rfl
              rw [hrun]
              rfl
            rw [this]
            exact ⟨γ, .int _ _, hrel, .refl _ _ _ _⟩
      · cases e
    · cases e
  · have := @hookX_ok { E with hook := hookX ib } ib rfl hb f as H H' v e γ N w as' ⟨hrel.blk, hrel.low, hrel.inj, hrel.glob, hrel.sym⟩ hN hargs hf
    exact callWp_mono this fun v' w' ⟨γ', a, b, c⟩ => ⟨γ', a, ⟨b.blk, b.low, b.inj, b.glob, b.sym⟩, c⟩
end Go.Proofs.YteopodohghnokaaGreatDoor.Ex
end
