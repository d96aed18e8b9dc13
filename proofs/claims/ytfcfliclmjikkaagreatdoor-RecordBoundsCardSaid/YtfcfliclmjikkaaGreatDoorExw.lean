/- The plain runner: the run of a region whose order is open, written down operation by operation. -/
import Derived.Test.YtfcfliclmjikkaaGreatDoorExv
namespace Go.Proofs.YtfcfliclmjikkaaGreatDoor.Ex
open Go
set_option linter.unusedVariables false
set_option linter.unusedSimpArgs false

structure DS where
  F : Fr
  H : AH
  past : List AH
  ini : Tr Blk
structure Ent where
  i : Nat
  d : Nat
  st : DS
  s : St

/-- The block that an operation of its own makes. -/
def newOf (ty : Tr TI) (ops : Array Oper) (e : Ent) : Option (Nat × Blk) :=
  match ops[e.i]? with
  | some o => match okOf ty o.op with
    | .alloc => match wantedA ops e.st.F o with
      | some true => (e.s.H.bs.get e.st.H.n).map fun k => (e.st.H.n, k)
      | _ => none
    | _ => none
  | none => none
/-- How the run stands behind an operation. -/
def Ent.after (ty : Tr TI) (ops : Array Oper) (o : Oper) (e : Ent) : DS :=
  ⟨e.s.F, e.s.H, match okOf ty o.op with
    | .spine => e.s.H :: e.st.past
    | _ => e.st.past, match newOf ty ops e with
    | some (n, k) => e.st.ini.set n k
    | none => e.st.ini⟩

section
variable (E : Env) (call : CallF) (nt : Nat) (ops : Array Oper)
structure Good (e : Ent) (o : Oper) : Prop where
  op : ops[e.i]? = some o
  run : exOne E call nt ops o e.st.F e.st.H = some e.s
  ld : ∀ t a, okOf E.ty o.op = .load t a → e.d ≠ 0 → wantedA ops e.st.F o = some true → ∃ p v, opA e.st.F a = some p ∧ loadT E t p e.st.H = some v ∧ wasSo E t p v e.st.ini (e.st.past.tail.take e.d) = true
def Run : List Ent → DS → DS → Prop
  | [], x, y => x = y
  | e :: l, x, y => e.st = x ∧ ∃ o, Good E call nt ops e o ∧ Run l (e.after E.ty ops o) y
end

section
variable {E : Env} {call : CallF} {nt : Nat} {ops : Array Oper}
theorem Run.append : ∀ {l1 l2 : List Ent} {x y : DS}, Run E call nt ops (l1 ++ l2) x y → ∃ z, Run E call nt ops l1 x z ∧ Run E call nt ops l2 z y
  | [], l2, x, y, h => ⟨x, rfl, h⟩
  | e :: l1, l2, x, y, ⟨h1, o, h2, h3⟩ => by
    obtain ⟨z, a, b⟩ := Run.append h3
    exact ⟨z, ⟨h1, o, h2, a⟩, b⟩
theorem Run.join : ∀ {l1 l2 : List Ent} {x z y : DS}, Run E call nt ops l1 x z → Run E call nt ops l2 z y → Run E call nt ops (l1 ++ l2) x y
  | [], l2, x, z, y, h, g => by rw [show x = z from h]; exact g
  | e :: l1, l2, x, z, y, ⟨h1, o, h2, h3⟩, g => ⟨h1, o, h2, Run.join h3 g⟩

/-- The runner's own pass writes such a log. -/
theorem exDraw_run : ∀ {L : List (Nat × Nat)} {F : Fr} {H : AH} {past : List AH} {ini : Tr Blk} {s : St}, exDraw E call nt ops L F H past ini = some s →
    ∃ log y, log.map (fun e => (e.i, e.d)) = L ∧ Run E call nt ops log ⟨F, H, past, ini⟩ y ∧ y.F = s.F ∧ y.H = s.H
  | [], F, H, past, ini, s, h => by
    simp only [exDraw, Option.some.injEq] at h
    subst h
    exact ⟨[], _, rfl, rfl, rfl, rfl⟩
  | (i, d) :: L, F, H, past, ini, s, h => by
    simp only [exDraw] at h
    split at h
    · cases h
    · rename_i o ho
      split at h
      · cases h
      · rename_i s1 h1
        have fin : ∀ {past' ini'}, exDraw E call nt ops L s1.F s1.H past' ini' = some s → (Ent.after E.ty ops o ⟨i, d, ⟨F, H, past, ini⟩, s1⟩) = ⟨s1.F, s1.H, past', ini'⟩ →
            (∀ t a, okOf E.ty o.op = .load t a → d ≠ 0 → wantedA ops F o = some true → ∃ p v, opA F a = some p ∧ loadT E t p H = some v ∧ wasSo E t p v ini (past.tail.take d) = true) →
            ∃ log y, log.map (fun e => (e.i, e.d)) = (i, d) :: L ∧ Run E call nt ops log ⟨F, H, past, ini⟩ y ∧ y.F = s.F ∧ y.H = s.H := fun {past' ini'} hr ha hl => by
          obtain ⟨log, y, a, b, c, e⟩ := exDraw_run hr
          refine ⟨⟨i, d, ⟨F, H, past, ini⟩, s1⟩ :: log, y, by simp [a], ⟨rfl, o, ⟨ho, h1, hl⟩, ?_⟩, c, e⟩
          rw [ha]
          exact b
        split at h
        · rename_i hk
          exact fin h (by simp [Ent.after, newOf, ho, hk]) (fun t a q => by rw [hk] at q; cases q)
        · rename_i hk
          exact fin h (by simp [Ent.after, newOf, ho, hk]) (fun t a q => by rw [hk] at q; cases q)
        · rename_i hk
          refine fin h ?_ (fun t a q => by rw [hk] at q; cases q)
          simp only [Ent.after, newOf, ho, hk]
          cases wantedA ops F o with
          | none => rfl
          | some b => cases b with
            | false => rfl
            | true => cases s1.H.bs.get H.n <;> rfl
        · rename_i t a hk
          split at h
          · exact fin h (by simp [Ent.after, newOf, ho, hk]) (fun t a q hd => absurd rfl hd)
          · rename_i d' hd'
            split at h
            · rename_i hc
              refine fin h (by simp [Ent.after, newOf, ho, hk]) (fun t' a' q hd hw => ?_)
              rw [hk] at q
              simp only [OK.load.injEq] at q
              obtain ⟨rfl, rfl⟩ := q
              rw [hw] at hc
              simp only at hc
              split at hc
              · rename_i p hp
                split at hc
                · rename_i v hv
                  exact ⟨p, v, hp, hv, hc⟩
                · cases hc
              · cases hc
            · cases h

/-! ### What a run leaves -/
def dstOf (ops : Array Oper) (i : Nat) : Option Tmp := (ops[i]?).bind (·.dst)
def spineE (ty : Tr TI) (ops : Array Oper) (e : Ent) : Bool := spineAt ty ops e.i

theorem spine_iff {ty : Tr TI} {o : Oper} : isSpine ty o = true ↔ okOf ty o.op = .spine := by
  unfold isSpine
  cases okOf ty o.op <;> simp

/-- The slot that is written, and what into. -/
theorem good_frame {e : Ent} {o : Oper} (h : Good E call nt ops e o) : ∃ v, putA nt e.st.F o.dst v = some e.s.F ∧ ∀ t, tmpA e.s.F t = if o.dst = some t then v else tmpA e.st.F t := by
  have key : ∀ {v : AV} {F' : Fr}, putA nt e.st.F o.dst v = some F' → F' = e.s.F → ∃ v, putA nt e.st.F o.dst v = some e.s.F ∧ ∀ t, tmpA e.s.F t = if o.dst = some t then v else tmpA e.st.F t := fun {v F'} hp hF => by
    subst hF
    refine ⟨v, hp, fun t => ?_⟩
    unfold putA at hp
    cases hd : o.dst with
    | none => simp only [hd, Option.some.injEq] at hp; rw [← hp]; simp
    | some u =>
      simp only [hd] at hp
      split at hp
      · simp only [Option.some.injEq] at hp
        rw [← hp, tmpA_set]
        by_cases q : u = t
        · subst q; simp
        · rw [if_neg q, if_neg (by simpa using q)]
      · cases hp
  have hr := h.run
  unfold exOne at hr
  split at hr
  · split at hr
    · rename_i r _
      unfold finA at hr
      cases r with
      | val v H' =>
        simp only at hr
        split at hr
        · rename_i F' hp; simp only [Option.some.injEq] at hr; exact key hp (by rw [← hr])
        · cases hr
      | skip H' =>
        simp only at hr
        split at hr
        · rename_i F' hp; simp only [Option.some.injEq] at hr; exact key hp (by rw [← hr])
        · cases hr
      | call f args H' =>
        simp only at hr
        split at hr
        · split at hr
          · rename_i F' hp; simp only [Option.some.injEq] at hr; exact key hp (by rw [← hr])
          · cases hr
        · cases hr
    · cases hr
  · split at hr
    · rename_i F' hp; simp only [Option.some.injEq] at hr; exact key hp (by rw [← hr])
    · cases hr
  · cases hr

theorem run_frame : ∀ {l : List Ent} {x y : DS}, Run E call nt ops l x y → ∀ t, (∀ e ∈ l, dstOf ops e.i ≠ some t) → tmpA y.F t = tmpA x.F t
  | [], x, y, h, t, _ => by rw [show x = y from h]
  | e :: l, x, y, ⟨h1, o, h2, h3⟩, t, hn => by
    rw [run_frame h3 t (fun e' he' => hn e' (List.mem_cons_of_mem _ he'))]
    obtain ⟨v, _, hv⟩ := good_frame h2
    have := hv t
    have hd := hn e (List.mem_cons_self ..)
    unfold dstOf at hd
    rw [h2.op] at hd
    simp only [Option.bind_some, ne_eq] at hd
    rw [if_neg hd] at this
    rw [← h1]
    exact this

theorem run_num (hnum : NumOk call) : ∀ {l : List Ent} {x y : DS}, Run E call nt ops l x y → x.H.n ≤ y.H.n
  | [], x, y, h => by rw [show x = y from h]; exact Nat.le_refl _
  | e :: l, x, y, ⟨h1, o, h2, h3⟩ => by
    have a := exOne_num hnum h2.run
    have b := run_num hnum h3
    rw [← h1]
    exact Nat.le_trans a b

/-- An operation that is none of those that act leaves memory alone, or makes one block. -/
theorem quiet_heap {e : Ent} {o : Oper} (h : Good E call nt ops e o) (hs : isSpine E.ty o = false) :
    (newOf E.ty ops e = none ∧ e.s.H = e.st.H) ∨ ∃ k v l, newOf E.ty ops e = some (e.st.H.n, k) ∧ okOf E.ty o.op = .alloc ∧ wantedA ops e.st.F o = some true ∧ e.s.H.n = e.st.H.n + 1 ∧ e.s.H.bs.get = hset e.st.H.bs.get e.st.H.n k ∧
      k = ⟨l.length, Tr.nil.put 0 l⟩ ∧ e.st.H.new l = some e.s.H ∧ putA nt e.st.F o.dst v = some e.s.F ∧ ∀ H' : AH, H'.n = e.st.H.n → ∃ H1, H'.new l = some H1 ∧ exOp E e.st.F o.op H' = some (.val v H1) := by
  have hr := h.run
  unfold exOne at hr
  have hnone : okOf E.ty o.op ≠ .alloc → newOf E.ty ops e = none := fun hk => by
    unfold newOf
    rw [h.op]
    cases hq : okOf E.ty o.op <;> simp_all
  split at hr
  · rename_i hw
    split at hr
    · rename_i r hx
      have noalloc : (∃ v, r = .val v e.st.H) → okOf E.ty o.op ≠ .alloc → newOf E.ty ops e = none ∧ e.s.H = e.st.H := fun ⟨v, hv⟩ hk => by
        subst hv
        simp only [finA] at hr
        split at hr
        · simp only [Option.some.injEq] at hr; exact ⟨hnone hk, by rw [← hr]⟩
        · cases hr
      cases hk : okOf E.ty o.op with
      | pure =>
        obtain ⟨v, hv, _⟩ := pure_kind hk hx
        exact .inl (noalloc ⟨v, hv⟩ (by rw [hk]; simp))
      | load t a =>
        have := load_kind hk
        rw [this] at hx
        simp only [exOp, loadX] at hx
        split at hx
        · obtain ⟨v, _, hv⟩ := vR_some hx
          exact .inl (noalloc ⟨v, hv⟩ (by rw [hk]; simp))
        · cases hx
      | spine => rw [spine_iff.2 hk] at hs; cases hs
      | alloc =>
        obtain ⟨v, l, H1, rfl, hn, hall⟩ := alloc_kind hk hx
        simp only [finA] at hr
        split at hr
        · rename_i F' hp
          simp only [Option.some.injEq] at hr
          obtain ⟨g1, g2, g3⟩ := AH.new_ok hn
          have e1 : e.s.H = H1 := by rw [← hr]
          have e2 : e.s.F = F' := by rw [← hr]
          right
          refine ⟨⟨l.length, Tr.nil.put 0 l⟩, v, l, ?_, rfl, hw, by rw [e1]; exact g1, by rw [e1]; exact g2, rfl, by rw [e1]; exact hn, by rw [e2]; exact hp, hall⟩
          unfold newOf
          rw [h.op]
          simp only [hk, hw, e1, g2]
          simp [hset]
        · cases hr
    · cases hr
  · rename_i hw
    split at hr
    · simp only [Option.some.injEq] at hr
      refine .inl ⟨?_, by rw [← hr]⟩
      unfold newOf
      rw [h.op]
      simp only
      split
      · rw [hw]
      · rfl
    · cases hr
  · cases hr

theorem newOf_spine {e : Ent} {o : Oper} (h : Good E call nt ops e o) (hs : isSpine E.ty o = true) : newOf E.ty ops e = none := by
  unfold newOf
  rw [h.op]
  simp only [spine_iff.1 hs]

/-- The names that operations of their own give lie within the run's. -/
theorem run_ids (hnum : NumOk call) : ∀ {l : List Ent} {x y : DS}, Run E call nt ops l x y → ∀ e ∈ l, ∀ n k, newOf E.ty ops e = some (n, k) → x.H.n ≤ n ∧ n < y.H.n
  | [], x, y, h, e, he, n, k, hn => by simp at he
  | e0 :: l, x, y, ⟨h1, o, h2, h3⟩, e, he, n, k, hn => by
    have b := run_num hnum h3
    have a := exOne_num hnum h2.run
    rcases List.mem_cons.1 he with rfl | he
    · have hs : isSpine E.ty o = false := by
        cases q : isSpine E.ty o with
        | false => rfl
        | true => rw [newOf_spine h2 q] at hn; cases hn
      rcases quiet_heap h2 hs with ⟨q, _⟩ | ⟨k', v, l', q1, _, _, q2, _⟩
      · rw [q] at hn; cases hn
      · rw [q1] at hn
        simp only [Option.some.injEq, Prod.mk.injEq] at hn
        obtain ⟨rfl, rfl⟩ := hn
        rw [← h1]
        refine ⟨Nat.le_refl _, ?_⟩
        have : (e.after E.ty ops o).H.n = e.s.H.n := rfl
        omega
    · have := run_ids hnum h3 e he n k hn
      have q : (e0.after E.ty ops o).H.n = e0.s.H.n := rfl
      rw [← h1]
      omega
/-- A name is given once. -/
theorem run_once (hnum : NumOk call) : ∀ {l : List Ent} {x y : DS}, Run E call nt ops l x y → ∀ e ∈ l, ∀ e' ∈ l, ∀ n k k', newOf E.ty ops e = some (n, k) → newOf E.ty ops e' = some (n, k') → k = k'
  | [], x, y, h, e, he, _, _, _, _, _, _, _ => by simp at he
  | e0 :: l, x, y, ⟨h1, o, h2, h3⟩, e, he, e', he', n, k, k', hn, hn' => by
    have lt : ∀ {k0}, newOf E.ty ops e0 = some (n, k0) → n < (e0.after E.ty ops o).H.n := fun {k0} q => by
      have hs : isSpine E.ty o = false := by
        cases p : isSpine E.ty o with
        | false => rfl
        | true => rw [newOf_spine h2 p] at q; cases q
      rcases quiet_heap h2 hs with ⟨p, _⟩ | ⟨k1, v, l', p1, _, _, p2, _⟩
      · rw [p] at q; cases q
      · rw [p1] at q
        simp only [Option.some.injEq, Prod.mk.injEq] at q
        have : (e0.after E.ty ops o).H.n = e0.s.H.n := rfl
        omega
    have hh := List.mem_cons.1 he
    have hh' := List.mem_cons.1 he'
    clear he he'
    rcases hh with he | he
    · subst he
      rcases hh' with he' | he'
      · subst he'; rw [hn] at hn'; simpa using hn'
      · have := lt hn; have := (run_ids hnum h3 e' he' n k' hn').1; omega
    · rcases hh' with he' | he'
      · subst he'; have := lt hn'; have := (run_ids hnum h3 e he n k hn).1; omega
      · exact run_once hnum h3 e he e' he' n k k' hn hn'

/-- Over a stretch in which nothing acts, memory has but what was made there. -/
theorem run_quiet (hnum : NumOk call) : ∀ {l : List Ent} {x y : DS}, Run E call nt ops l x y → (∀ e ∈ l, spineE E.ty ops e = false) → ∀ id,
    (∀ e ∈ l, ∀ k, newOf E.ty ops e = some (id, k) → y.H.bs.get id = some k) ∧ ((∀ e ∈ l, ∀ k, newOf E.ty ops e ≠ some (id, k)) → y.H.bs.get id = x.H.bs.get id)
  | [], x, y, h, _, id => by rw [show x = y from h]; exact ⟨fun e he => by simp at he, fun _ => rfl⟩
  | e0 :: l, x, y, ⟨h1, o, h2, h3⟩, hq, id => by
    have hs : isSpine E.ty o = false := by
      have := hq e0 (List.mem_cons_self ..)
      unfold spineE spineAt at this
      rw [h2.op] at this
      exact this
    obtain ⟨ih1, ih2⟩ := run_quiet hnum h3 (fun e he => hq e (List.mem_cons_of_mem _ he)) id
    have step : (e0.after E.ty ops o).H.bs.get id = (match newOf E.ty ops e0 with
        | some (n, k) => if n = id then some k else x.H.bs.get id
        | none => x.H.bs.get id) := by
      rw [← h1]
      rcases quiet_heap h2 hs with ⟨q, p⟩ | ⟨k', v, l', q1, _, _, q2, q3, _⟩
      · rw [q]
        show e0.s.H.bs.get id = _
        rw [p]
      · rw [q1]
        show e0.s.H.bs.get id = _
        rw [q3]
        rfl
    refine ⟨fun e he k hn => ?_, fun hno => ?_⟩
    · rcases List.mem_cons.1 he with rfl | he
      · by_cases hlater : ∀ e' ∈ l, ∀ k', newOf E.ty ops e' ≠ some (id, k')
        · rw [ih2 hlater, step, hn]; simp
        · exfalso
          apply hlater
          intro e' he' k' hn'
          have a := (run_ids hnum h3 e' he' id k' hn').1
          rcases quiet_heap h2 hs with ⟨q, _⟩ | ⟨k1, v, l', q1, _, _, q2, _⟩
          · rw [q] at hn; cases hn
          · rw [q1] at hn
            simp only [Option.some.injEq, Prod.mk.injEq] at hn
            have : (e.after E.ty ops o).H.n = e.s.H.n := rfl
            omega
      · exact ih1 e he k hn
    · rw [ih2 (fun e he => hno e (List.mem_cons_of_mem _ he)), step]
      have := hno e0 (List.mem_cons_self ..)
      cases hn : newOf E.ty ops e0 with
      | none => rfl
      | some q =>
        obtain ⟨n, k⟩ := q
        simp only
        rw [if_neg]
        rintro rfl
        exact this k hn

/-- What was made is remembered. -/
theorem run_ini : ∀ {l : List Ent} {x y : DS}, Run E call nt ops l x y → ∀ id k, y.ini.get id = some k → x.ini.get id = some k ∨ ∃ e ∈ l, newOf E.ty ops e = some (id, k)
  | [], x, y, h, id, k, hk => by rw [show x = y from h]; exact .inl hk
  | e0 :: l, x, y, ⟨h1, o, h2, h3⟩, id, k, hk => by
    rcases run_ini h3 id k hk with q | ⟨e, he, q⟩
    · subst h1
      unfold Ent.after at q
      simp only at q
      split at q
      · rename_i n k1 hn
        rw [Tr.get_set] at q
        split at q
        · rename_i hid
          simp only [Option.some.injEq] at q
          subst hid q
          exact .inr ⟨e0, List.mem_cons_self .., hn⟩
        · exact .inl q
      · exact .inl q
    · exact .inr ⟨e, List.mem_cons_of_mem _ he, q⟩

/-- The heaps behind all that acts, the last one first. -/
def spR (ty : Tr TI) (ops : Array Oper) : List Ent → List AH
  | [] => []
  | e :: l => spR ty ops l ++ (match spineE ty ops e with
    | true => [e.s.H]
    | false => [])
theorem run_past : ∀ {l : List Ent} {x y : DS}, Run E call nt ops l x y → y.past = spR E.ty ops l ++ x.past
  | [], x, y, h => by rw [show x = y from h]; rfl
  | e0 :: l, x, y, ⟨h1, o, h2, h3⟩ => by
    rw [run_past h3]
    simp only [spR, List.append_assoc]
    congr 1
    subst h1
    unfold spineE spineAt
    rw [h2.op]
    simp only
    unfold Ent.after
    simp only
    cases hk : okOf E.ty o.op <;> simp [isSpine, hk]
end
end Go.Proofs.YtfcfliclmjikkaaGreatDoor.Ex
