/- The plain runner: a region whose order is open. What holds behind any part of it that may have been done. -/
import Derived.Test.YtfcfliclmjikkaaGreatDoorExx
namespace Go.Proofs.YtfcfliclmjikkaaGreatDoor.Ex
open Go
set_option linter.unusedVariables false
set_option linter.unusedSimpArgs false

/-- What the plan of a region says of its log. -/
structure LogOk (ty : Tr TI) (ops : Array Oper) (log : List Ent) : Prop where
  cover : ∀ i, i < ops.size → ∃ e ∈ log, e.i = i
  split : ∀ l1 e l2, log = l1 ++ e :: l2 → (∃ o, ops[e.i]? = some o ∧ (∀ p ∈ edgesOf o, ∃ e' ∈ l1, e'.i = p) ∧ (isSpine ty o = true → ∀ e' ∈ l1, Anc ops e.i e'.i)) ∧ (∀ e' ∈ l1, e'.i ≠ e.i)
  age : ∀ l1 e l2, log = l1 ++ e :: l2 → e.d = ageOf ((masks ops.toList []).getD e.i 0) (spI ty ops l1)
  ord : ∀ {j : Nat} {o : Oper}, ops[j]? = some o → ∀ t ∈ allReads ops o, ∀ {i : Nat} {o' : Oper}, ops[i]? = some o' → o'.dst = some t → i = j ∨ Anc ops j i ∨ Anc ops i j
  dst : ∀ {i j : Nat} {o o' : Oper} {t : Tmp}, ops[i]? = some o → ops[j]? = some o' → o.dst = some t → o'.dst = some t → i = j

theorem plan_ok {ty : Tr TI} {ops : Array Oper} {L : List (Nat × Nat)} (h : planOf ty ops = some L) {log : List Ent} (hl : log.map (fun e => (e.i, e.d)) = L) : LogOk ty ops log := by
  unfold planOf at h
  simp only at h
  split at h
  · rename_i hc
    simp only [Option.some.injEq] at h
    simp only [Bool.and_eq_true] at hc
    obtain ⟨⟨h1, h2⟩, h3⟩ := hc
    generalize hL : canon ty ops.size (masks ops.toList []) ops.toList 0 0 = Lc at h h1
    have hidx : log.map (·.i) = Lc := by
      have := congrArg (List.map (·.1)) hl
      rw [← h, withAge_fst] at this
      rw [← this, List.map_map]
      rfl
    obtain ⟨k1, k2⟩ := chk_ok Lc 0 h1
    refine ⟨fun i hi => ?_, fun l1 e l2 he => ?_, fun l1 e l2 he => ?_, fun {j o} ho t ht {i o'} ho' hd => ?_, fun {i j o o' t} a b c d => dsts_inj ops.toList (nodupB_ok _ h3) i j o o' t (by simpa using a) (by simpa using b) c d⟩
    · rcases k2 i hi with q | q
      · simp at q
      · rw [← hidx] at q
        obtain ⟨e, a, b⟩ := List.mem_map.1 q
        exact ⟨e, a, b⟩
    · have := k1 (l1.map (·.i)) e.i (l2.map (·.i)) (by rw [← hidx, he]; simp)
      obtain ⟨⟨o, a, b, c⟩, _, d⟩ := this
      refine ⟨⟨o, a, fun p hp => ?_, fun hs e' he' => c hs _ (.inr (List.mem_map.2 ⟨e', he', rfl⟩))⟩, fun e' he' q => d (List.mem_map.2 ⟨e', he', q⟩)⟩
      rcases b p hp with q | q
      · simp at q
      · exact List.mem_map.1 q
    · have := withAge_split ty ops (masks ops.toList []) l1 e l2 Lc [] (by rw [← he, hl, h])
      simpa using this
    · have q := ordAll_ok ops.toList 0 h2 j o (by simpa using ho) t ht
      rw [Nat.zero_add] at q
      have := ordOne_ok ops.toList 0 q i o' (by simpa using ho') hd
      rw [Nat.zero_add] at this
      exact this
  · cases h

section
variable {ty : Tr TI} {ops : Array Oper} {log : List Ent}
theorem LogOk.inj (h : LogOk ty ops log) {e e' : Ent} (he : e ∈ log) (he' : e' ∈ log) (q : e.i = e'.i) : e = e' := by
  obtain ⟨l1, l2, rfl⟩ := List.append_of_mem he
  rcases List.mem_append.1 he' with m | m
  · exact absurd q.symm ((h.split l1 e l2 rfl).2 e' m)
  · rcases List.mem_cons.1 m with m | m
    · exact m.symm
    · obtain ⟨m1, m2, rfl⟩ := List.append_of_mem m
      exact absurd q ((h.split (l1 ++ e :: m1) e' m2 (by simp)).2 e (by simp))
theorem LogOk.before (h : LogOk ty ops log) : ∀ (n : Nat) (l1 : List Ent) (e : Ent) (l2 : List Ent) (j : Nat), l1.length ≤ n → log = l1 ++ e :: l2 → Anc ops e.i j → ∃ e' ∈ l1, e'.i = j
  | n, l1, e, l2, j, hn, hl, ha => by
    obtain ⟨⟨o, ho, hp, _⟩, _⟩ := h.split l1 e l2 hl
    obtain ⟨p, hpe, q⟩ := anc_edge ho ha
    obtain ⟨e1, he1, rfl⟩ := hp p hpe
    rcases q with rfl | q
    · exact ⟨e1, he1, rfl⟩
    · obtain ⟨m1, m2, rfl⟩ := List.append_of_mem he1
      cases n with
      | zero => simp at hn
      | succ n =>
        obtain ⟨e', a, b⟩ := LogOk.before h n m1 e1 (m2 ++ e :: l2) j (by simp at hn; omega) (by simp [hl]) q
        exact ⟨e', by simp [a], b⟩
theorem LogOk.ahead (h : LogOk ty ops log) {l1 : List Ent} {e : Ent} {l2 : List Ent} (hl : log = l1 ++ e :: l2) {e' : Ent} (he' : e' ∈ log) (ha : Anc ops e.i e'.i) : e' ∈ l1 := by
  obtain ⟨e1, a, b⟩ := h.before _ l1 e l2 e'.i (Nat.le_refl _) hl ha
  have := h.inj (by rw [hl]; simp [a]) he' b
  rw [← this]; exact a
end

section
variable (E : Env) (call : CallF) (nt : Nat) (ops : Array Oper) (log : List Ent) (x0 y0 : DS) (γ0 : Cx) (w0 : World) (N B : Nat)
structure Inv (pre suf : List Ent) (xp : DS) (γ : Cx) (FD : Fr) (HD : HM) (D : Nat → Prop) (a : Act) (w : World) : Prop where
  eq : log = pre ++ suf
  run1 : Run E call nt ops pre x0 xp
  run2 : Run E call nt ops suf xp y0
  done : ∀ e ∈ pre, D e.i
  head : xp.past.head? = some xp.H
  quiet : ∀ e ∈ suf, D e.i → spineE E.ty ops e = false
  anc : ∀ {i j}, D i → Anc ops i j → D j
  fd1 : ∀ e ∈ log, D e.i → ∀ t, dstOf ops e.i = some t → tmpA FD t = tmpA e.s.F t
  fd2 : ∀ t, (∀ e ∈ log, D e.i → dstOf ops e.i ≠ some t) → tmpA FD t = tmpA x0.F t
  hd1 : ∀ e ∈ suf, D e.i → ∀ id k, newOf E.ty ops e = some (id, k) → HD id = some k
  hd2 : ∀ id, (∀ e ∈ suf, D e.i → ∀ k, newOf E.ty ops e ≠ some (id, k)) → HD id = xp.H.bs.get id
  free : ∀ id, xp.H.n ≤ id → id < y0.H.n → xp.H.bs.get id = none
  name : ∀ id l, x0.H.n ≤ id → id < y0.H.n → γ.loc id = some l → id < xp.H.n ∨ ∃ e ∈ suf, D e.i ∧ ∃ k, newOf E.ty ops e = some (id, k)
  sr : SR E γ N B nt FD HD a w
  nxt : Nxt γ0 x0.H.bs.get w0 x0.H.n γ HD w y0.H.n
end

section
variable {E : Env} {call : CallF} {nt : Nat} {ops : Array Oper} {log : List Ent} {x0 y0 : DS} {γ0 : Cx} {w0 : World} {N B : Nat}
variable {pre suf : List Ent} {xp : DS} {γ : Cx} {FD : Fr} {HD : HM} {D : Nat → Prop} {a : Act} {w : World}

/-- A slot behind a run that wrote it. -/
theorem run_wrote (lk : LogOk E.ty ops log) {l1 l2 : List Ent} (hl : log = l1 ++ l2) {x y : DS} (hr : Run E call nt ops l1 x y) {e : Ent} (he : e ∈ l1) {t : Tmp} (hd : dstOf ops e.i = some t) : tmpA y.F t = tmpA e.s.F t := by
  obtain ⟨q1, q2, rfl⟩ := List.append_of_mem he
  obtain ⟨z, _, h1, o, h2, h3⟩ := Run.append hr
  rw [run_frame h3 t (fun e2 he2 hd2 => ?_)]
  · rfl
  · unfold dstOf at hd hd2
    cases h5 : ops[e2.i]? with
    | none => simp [h5] at hd2
    | some o2 =>
      rw [h2.op] at hd
      rw [h5] at hd2
      simp only [Option.bind_some] at hd hd2
      have := lk.dst h2.op h5 hd hd2
      obtain ⟨m1, m2, rfl⟩ := List.append_of_mem he2
      exact (lk.split (q1 ++ e :: m1) e2 (m2 ++ l2) (by rw [hl]; simp)).2 e (by simp) this

variable (inv : Inv E call nt ops log x0 y0 γ0 w0 N B pre suf xp γ FD HD D a w)
include inv

theorem Inv.ready_anc {i : Nat} {o : Oper} (ho : ops[i]? = some o) (hr : ∀ p ∈ edgesOf o, D p) {j : Nat} (ha : Anc ops i j) : D j := by
  obtain ⟨p, hp, q⟩ := anc_edge ho ha
  rcases q with rfl | q
  · exact hr _ hp
  · exact inv.anc (hr p hp) q

variable (lk : LogOk E.ty ops log)
include lk
/-- What a ready operation reads is what it read in the runner's own order. -/
theorem Inv.reads {mid rest : List Ent} {e : Ent} (hs : suf = mid ++ e :: rest) {o : Oper} (hg : Good E call nt ops e o) (hr : ∀ p ∈ edgesOf o, D p) (hn : ¬ D e.i) : Agree FD e.st.F (allReads ops o) := by
  intro t ht
  have hlog : log = (pre ++ mid) ++ e :: rest := by rw [inv.eq, hs, List.append_assoc]
  have hrun : Run E call nt ops (pre ++ mid) x0 e.st := by
    have := inv.run2
    rw [hs] at this
    obtain ⟨z, h1, h2, _⟩ := Run.append this
    rw [h2]
    exact inv.run1.join h1
  have same : (∀ e' ∈ log, D e'.i → dstOf ops e'.i ≠ some t) → (∀ e' ∈ pre ++ mid, dstOf ops e'.i ≠ some t) → tmpA FD t = tmpA e.st.F t := fun a b => by
    rw [inv.fd2 t a, run_frame hrun t b]
  by_cases hw : ∃ e' ∈ log, dstOf ops e'.i = some t
  · obtain ⟨e', he', hd⟩ := hw
    have uniq : ∀ e2 ∈ log, dstOf ops e2.i = some t → e2 = e' := fun e2 h2 hd2 => by
      refine lk.inj h2 he' ?_
      unfold dstOf at hd hd2
      cases h5 : ops[e2.i]? with
      | none => simp [h5] at hd2
      | some o2 =>
        cases h6 : ops[e'.i]? with
        | none => simp [h6] at hd
        | some o3 =>
          rw [h5] at hd2
          rw [h6] at hd
          exact lk.dst h5 h6 hd2 hd
    obtain ⟨o', ho', hdo⟩ : ∃ o', ops[e'.i]? = some o' ∧ o'.dst = some t := by
      unfold dstOf at hd
      cases h6 : ops[e'.i]? with
      | none => simp [h6] at hd
      | some o3 => rw [h6] at hd; exact ⟨o3, rfl, hd⟩
    have before : e' ∈ pre ++ mid → D e'.i → tmpA FD t = tmpA e.st.F t := fun m hD => by
      rw [inv.fd1 e' he' hD t hd, run_wrote lk hlog hrun m hd]
    have after : e' ∉ pre ++ mid → ¬ D e'.i → tmpA FD t = tmpA e.st.F t := fun m hD =>
      same (fun e2 h2 hD2 hd2 => by rw [uniq e2 h2 hd2] at hD2; exact hD hD2) (fun e2 h2 hd2 => by rw [uniq e2 (by rw [hlog]; exact List.mem_append_left _ h2) hd2] at h2; exact m h2)
    rcases lk.ord hg.op t ht ho' hdo with q | q | q
    · refine after (fun m => (lk.split _ e rest hlog).2 e' m q) (by rw [q]; exact hn)
    · exact before (lk.ahead hlog he' q) (inv.ready_anc hg.op hr q)
    · refine after (fun m => ?_) (fun hD => hn (inv.anc hD q))
      obtain ⟨m1, m2, hm⟩ := List.append_of_mem m
      have hl2 : log = m1 ++ e' :: (m2 ++ e :: rest) := by rw [hlog, hm]; simp
      have := lk.ahead hl2 (e' := e) (by rw [hlog]; simp) q
      exact (lk.split _ e rest hlog).2 e (by rw [hm]; simp [this]) rfl
  · exact same (fun e' he' _ hd => hw ⟨e', he', hd⟩) (fun e' he' hd => hw ⟨e', by rw [hlog]; exact List.mem_append_left _ he', hd⟩)

/-- All done. -/
theorem Inv.last (hnum : NumOk call) (hall : ∀ e ∈ log, D e.i) : SR E γ N B nt y0.F y0.H.bs.get a w ∧ Nxt γ0 x0.H.bs.get w0 x0.H.n γ y0.H.bs.get w y0.H.n := by
  have hrun : Run E call nt ops log x0 y0 := by rw [inv.eq]; exact inv.run1.join inv.run2
  have hmem : ∀ e ∈ suf, e ∈ log := fun e he => by rw [inv.eq]; exact List.mem_append_right _ he
  have hF : ∀ t, tmpA FD t = tmpA y0.F t := fun t => by
    by_cases hw : ∃ e' ∈ log, dstOf ops e'.i = some t
    · obtain ⟨e, he, hd⟩ := hw
      rw [inv.fd1 e he (hall e he) t hd, run_wrote lk (l2 := []) (by simp) hrun he hd]
    · rw [inv.fd2 t (fun e he _ hd => hw ⟨e, he, hd⟩), run_frame hrun t (fun e he hd => hw ⟨e, he, hd⟩)]
  have hH : HD = y0.H.bs.get := by
    funext id
    obtain ⟨q1, q2⟩ := run_quiet hnum inv.run2 (fun e he => inv.quiet e he (hall e (hmem e he))) id
    by_cases hp : ∃ e ∈ suf, ∃ k, newOf E.ty ops e = some (id, k)
    · obtain ⟨e, he, k, hk⟩ := hp
      rw [inv.hd1 e he (hall e (hmem e he)) id k hk, q1 e he k hk]
    · rw [inv.hd2 id (fun e he _ k hk => hp ⟨e, he, k, hk⟩), q2 (fun e he k hk => hp ⟨e, he, k, hk⟩)]
  refine ⟨⟨by rw [← hH]; exact inv.sr.rel, fun t => by rw [← hF t]; exact inv.sr.fr t, inv.sr.low, inv.sr.size, by rw [← hH]; exact inv.sr.defs⟩, by rw [← hH]; exact inv.nxt⟩
end
end Go.Proofs.YtfcfliclmjikkaaGreatDoor.Ex
