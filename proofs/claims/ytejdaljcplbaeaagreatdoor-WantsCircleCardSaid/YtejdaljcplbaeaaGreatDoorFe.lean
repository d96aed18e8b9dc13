/- The fast twin: regions that go by the plain runner; iterators. -/
import Derived.Test.YtejdaljcplbaeaaGreatDoorFd
namespace Go.Proofs.YtejdaljcplbaeaaGreatDoor.Ex
open Go
set_option linter.unusedVariables false
set_option linter.unusedSimpArgs false

/-- What a call gives, others give too, given room. -/
def Weak (c1 : CallF) (cf : Nat → CallF) : Prop := ∀ (f : FuncId) (args : List AV) (H : AH) (r : AV × AH), c1 f args H = some r → ∃ N, ∀ L, N ≤ L → cf L f args H = some r
theorem direct_weak {call : CallK} {cf : Nat → CallF} (hs : Sim call cf) : Weak (directF call) cf := fun f args H r h => by
  unfold directF at h
  split at h
  · rename_i e v H' he
    cases h
    obtain ⟨v', H'', N, h1, h2⟩ := hs _ _ _ _ _ he
    cases h2
    exact ⟨N, h1⟩
  · cases h

section
variable {E : Env} {nt : Nat} {ops : Array Oper} {c1 : CallF} {cf : Nat → CallF}
def AG (P : Nat → Prop) (F F' : Fr) : Prop := ∀ t, P t → tmpA F t = tmpA F' t
theorem AG.set {P : Nat → Prop} {F F' : Fr} (h : AG P F F') (t : Nat) (v : AV) : AG P (F.set t v) (F'.set t v) := fun u hu => by
  rw [tmpA_set, tmpA_set, h u hu]
theorem AG.put {P : Nat → Prop} {F F' G : Fr} (h : AG P F F') {d : Option Tmp} {v : AV} (hp : putA nt F d v = some G) : ∃ G', putA nt F' d v = some G' ∧ AG P G G' := by
  cases d with
  | none => cases hp; exact ⟨F', rfl, h⟩
  | some t =>
    simp only [putA] at hp ⊢
    split at hp
    · rename_i ht
      cases hp
      rw [if_pos ht]
      exact ⟨_, rfl, h.set t v⟩
    · cases hp
theorem one_weak (hw : Weak c1 cf) {P : Nat → Prop} {o : Oper} (hr : ∀ t ∈ allReads ops o, P t) {F F' : Fr} (hF : AG P F F') {H : AH} {s : St} (h : exOne E c1 nt ops o F H = some s) :
    ∃ s' N, (∀ L, N ≤ L → exOne E (cf L) nt ops o F' H = some s') ∧ s'.H = s.H ∧ AG P s.F s'.F := by
  have e1 : wantedA ops F o = wantedA ops F' o := wantedA_reads fun t ht => hF t (hr t (List.mem_append_left _ ht))
  have e2 : exOp E F o.op H = exOp E F' o.op H := exOp_reads (fun t ht => hF t (hr t (List.mem_append_right _ ht))) H
  unfold exOne at h ⊢
  rw [← e1, ← e2]
  cases hq : wantedA ops F o with
  | none => rw [hq] at h; cases h
  | some q =>
    rw [hq] at h
    cases q with
    | false =>
      simp only at h ⊢
      cases hp : putA nt F o.dst (.tup []) with
      | none => rw [hp] at h; cases h
      | some G =>
        rw [hp] at h
        cases h
        obtain ⟨G', h1, h2⟩ := hF.put hp
        exact ⟨⟨G', H⟩, 0, fun L _ => by rw [h1], rfl, h2⟩
    | true =>
      simp only at h ⊢
      cases hR : exOp E F o.op H with
      | none => rw [hR] at h; cases h
      | some R =>
        rw [hR] at h
        simp only at h ⊢
        cases R with
        | val v H' =>
          simp only [finA] at h ⊢
          cases hp : putA nt F o.dst v with
          | none => rw [hp] at h; cases h
          | some G =>
            rw [hp] at h
            cases h
            obtain ⟨G', h1, h2⟩ := hF.put hp
            exact ⟨⟨G', H'⟩, 0, fun L _ => by rw [h1], rfl, h2⟩
        | skip H' =>
          simp only [finA] at h ⊢
          cases hp : putA nt F o.dst (.tup []) with
          | none => rw [hp] at h; cases h
          | some G =>
            rw [hp] at h
            cases h
            obtain ⟨G', h1, h2⟩ := hF.put hp
            exact ⟨⟨G', H'⟩, 0, fun L _ => by rw [h1], rfl, h2⟩
        | call f args H' =>
          simp only [finA] at h ⊢
          cases hc : c1 f args H' with
          | none => rw [hc] at h; cases h
          | some p =>
            obtain ⟨v, H''⟩ := p
            rw [hc] at h
            simp only at h
            cases hp : putA nt F o.dst v with
            | none => rw [hp] at h; cases h
            | some G =>
              rw [hp] at h
              cases h
              obtain ⟨G', h1, h2⟩ := hF.put hp
              obtain ⟨N, hN⟩ := hw _ _ _ _ hc
              exact ⟨⟨G', H''⟩, N, fun L hL => by rw [hN L hL]; simp only [h1], rfl, h2⟩
theorem draw_weak (hw : Weak c1 cf) {P : Nat → Prop} (hr : ∀ (i : Nat) o, ops[i]? = some o → ∀ t ∈ allReads ops o, P t) : ∀ {l : List (Nat × Nat)} {F F' : Fr} (hF : AG P F F') {H : AH} {past : List AH} {ini : Tr Blk} {s : St}, exDraw E c1 nt ops l F H past ini = some s →
    ∃ s' N, (∀ L, N ≤ L → exDraw E (cf L) nt ops l F' H past ini = some s') ∧ s'.H = s.H ∧ AG P s.F s'.F
  | [], F, F', hF, H, past, ini, s, h => by
    cases h
    exact ⟨⟨F', H⟩, 0, fun L _ => rfl, rfl, hF⟩
  | (i, d) :: l, F, F', hF, H, past, ini, s, h => by
    simp only [exDraw] at h
    split at h
    · cases h
    · rename_i o ho
      split at h
      · cases h
      · rename_i s1 hs1
        obtain ⟨s1', N1, h1, h2, h3⟩ := one_weak hw (hr i o ho) hF hs1
        have e1 : wantedA ops F o = wantedA ops F' o := wantedA_reads fun t ht => hF t (hr i o ho t (List.mem_append_left _ ht))
        split at h
        · rename_i hk
          obtain ⟨s', N, h4, h5⟩ := draw_weak hw hr h3 h
          exact ⟨s', max N1 N, fun L hL => by simp only [exDraw, ho, h1 L (by omega), hk, h2]; exact h4 L (by omega), h5⟩
        · rename_i hk
          obtain ⟨s', N, h4, h5⟩ := draw_weak hw hr h3 h
          exact ⟨s', max N1 N, fun L hL => by simp only [exDraw, ho, h1 L (by omega), hk, h2]; exact h4 L (by omega), h5⟩
        · rename_i hk
          obtain ⟨s', N, h4, h5⟩ := draw_weak hw hr h3 h
          exact ⟨s', max N1 N, fun L hL => by simp only [exDraw, ho, h1 L (by omega), hk, h2, ← e1]; exact h4 L (by omega), h5⟩
        · rename_i t a hk
          have ea : opA F a = opA F' a := opA_reads fun t ht => hF t (hr i o ho t (List.mem_append_right _ (by rw [load_kind hk]; exact ht)))
          cases d with
          | zero =>
            obtain ⟨s', N, h4, h5⟩ := draw_weak hw hr h3 h
            exact ⟨s', max N1 N, fun L hL => by simp only [exDraw, ho, h1 L (by omega), hk, h2]; exact h4 L (by omega), h5⟩
          | succ d =>
            simp only at h
            split at h
            · rename_i hb
              obtain ⟨s', N, h4, h5⟩ := draw_weak hw hr h3 h
              refine ⟨s', max N1 N, fun L hL => ?_, h5⟩
              simp only [exDraw, ho, h1 L (by omega), hk, h2]
              rw [← e1, ← ea, hb]
              exact h4 L (by omega)
            · cases h
theorem put_else {F G : Fr} {d : Option Tmp} {v : AV} (h : putA nt F d v = some G) {t : Nat} (ht : d ≠ some t) : tmpA G t = tmpA F t := by
  cases d with
  | none => cases h; rfl
  | some u =>
    simp only [putA] at h
    split at h
    · cases h
      rw [tmpA_set, if_neg (fun e => ht (by rw [e]))]
    · cases h
theorem one_else {cl : CallF} {o : Oper} {F : Fr} {H : AH} {s : St} (h : exOne E cl nt ops o F H = some s) {t : Nat} (ht : o.dst ≠ some t) : tmpA s.F t = tmpA F t := by
  unfold exOne at h
  split at h
  · split at h
    · rename_i R hR
      cases R <;> simp only [finA] at h
      · split at h
        · rename_i hp; cases h; exact put_else hp ht
        · cases h
      · split at h
        · rename_i hp; cases h; exact put_else hp ht
        · cases h
      · split at h
        · split at h
          · rename_i hp; cases h; exact put_else hp ht
          · cases h
        · cases h
    · cases h
  · split at h
    · rename_i hp; cases h; exact put_else hp ht
    · cases h
  · cases h
theorem draw_else {cl : CallF} {t : Nat} (ht : ∀ (i : Nat) o, ops[i]? = some o → o.dst ≠ some t) : ∀ {l : List (Nat × Nat)} {F : Fr} {H : AH} {past : List AH} {ini : Tr Blk} {s : St}, exDraw E cl nt ops l F H past ini = some s → tmpA s.F t = tmpA F t
  | [], F, H, past, ini, s, h => by cases h; rfl
  | (i, d) :: l, F, H, past, ini, s, h => by
    simp only [exDraw] at h
    split at h
    · cases h
    · rename_i o ho
      split at h
      · cases h
      · rename_i s1 hs1
        rw [← one_else hs1 (ht i o ho)]
        split at h
        · exact draw_else ht h
        · exact draw_else ht h
        · exact draw_else ht h
        · split at h
          · exact draw_else ht h
          · split at h
            · exact draw_else ht h
            · cases h
theorem dsts_mem {o : Oper} {t : Nat} (l : List Oper) (hm : o ∈ l) (hd : o.dst = some t) : t ∈ dstsOf l := by
  induction l with
  | nil => cases hm
  | cons p l ih =>
    rcases List.mem_cons.1 hm with e | hm
    · rw [← e]
      simp only [dstsOf, hd]
      exact List.mem_cons_self ..
    · have := ih hm
      simp only [dstsOf]
      split
      · exact List.mem_cons_of_mem _ this
      · exact this
theorem reads_mem {o : Oper} {t : Nat} (l : List Oper) (hm : o ∈ l) (hd : t ∈ allReads ops o) : t ∈ readsAll ops l := by
  induction l with
  | nil => cases hm
  | cons p l ih =>
    rcases List.mem_cons.1 hm with e | hm
    · rw [← e]
      exact List.mem_append_left _ hd
    · exact List.mem_append_right _ (ih hm)
theorem back_ok : ∀ (ds : List Nat) (G : Fr) (F : NF) (k : NF → Res) (r : Ext × AV × AH), (∀ d ∈ ds, d < 512) → backF ds G F k = some r → ∃ F', k F' = some r ∧ ∀ t, t < 512 → look F' t = if t ∈ ds then tmpA G t else look F t
  | [], G, F, k, r, hd, h => ⟨F, h, fun t ht => by rw [if_neg (by simp)]⟩
  | d :: l, G, F, k, r, hd, h => by
    change (slotOf d).set (tmpA G d) F (fun F => backF l G F k) = some r at h
    rw [slot_set] at h
    obtain ⟨F', h1, h2⟩ := back_ok l G _ k r (fun x hx => hd x (List.mem_cons_of_mem _ hx)) h
    refine ⟨F', h1, fun t ht => ?_⟩
    rw [h2 t ht]
    by_cases hl : t ∈ l
    · rw [if_pos hl, if_pos (List.mem_cons_of_mem _ hl)]
    · rw [if_neg hl, look_up _ _ ht (hd d (List.mem_cons_self ..))]
      by_cases e : d = t
      · rw [if_pos e, if_pos (by rw [e]; exact List.mem_cons_self ..), e]
      · rw [if_neg e, if_neg (by simp only [List.mem_cons, not_or]; exact ⟨fun q => e q.symm, hl⟩)]
theorem slow_ok {call : CallK} (hs : Sim call cf) {cc : CC} (hp : compRegD E.ty nt ops = some cc) {ops' : Array Oper} {rs ds : List Nat} (hcc : cc = .slow ops' rs ds) {F : NF} {G : Fr} (hF : RF F G) {H : AH} {kn : KN} {r : Ext × AV × AH}
    (h : (miniF rs F .nil fun G => optK (exReg E (directF call) nt ops' true G H) fun s => backF ds s.F F fun F => kn F s.H) = some r) :
    ∃ s N, (∀ L, N ≤ L → exReg E (cf L) nt ops true G H = some s) ∧ ∃ F', RF F' s.F ∧ kn F' s.H = some r := by
  unfold compRegD at hp
  split at hp
  · rename_i L hL
    split at hp
    · simp only [Option.map_eq_some_iff] at hp
      obtain ⟨a, _, rfl⟩ := hp
      cases hcc
    · cases hb : ((dstsOf ops.toList).all (Nat.blt · 512) && (readsAll ops ops.toList).all (Nat.blt · 512)) with
      | false => rw [hb] at hp; cases hp
      | true =>
        rw [hb] at hp
        cases hp
        cases hcc
        rw [Bool.and_eq_true] at hb
        have hd : ∀ d ∈ dstsOf ops.toList, d < 512 := fun d hd => blt_lt (List.all_eq_true.1 hb.1 d hd)
        have hr : ∀ d ∈ readsAll ops ops.toList, d < 512 := fun d hd => blt_lt (List.all_eq_true.1 hb.2 d hd)
        obtain ⟨G', h, h1, h2⟩ := miniF_ok _ _ _ _ _ h
        obtain ⟨s', hx, h⟩ := optK_ok h
        obtain ⟨F', h, h3⟩ := back_ok _ _ _ _ _ hd h
        simp only [exReg, hL] at hx
        have mem : ∀ (i : Nat) o, ops[i]? = some o → o ∈ ops.toList := fun i o ho => by
          rw [← Array.getElem?_toList] at ho
          exact List.mem_of_getElem? ho
        have hall : ∀ t, t ∈ readsAll ops ops.toList ++ dstsOf ops.toList → t < 512 := fun t ht => by
          rcases List.mem_append.1 ht with ht | ht
          · exact hr t ht
          · exact hd t ht
        obtain ⟨s, N, h4, h5, h6⟩ := draw_weak (P := fun t => t ∈ readsAll ops ops.toList ++ dstsOf ops.toList) (direct_weak hs) (fun i o ho t ht => List.mem_append_left _ (reads_mem _ (mem i o ho) ht)) (F' := G) (fun t ht => by rw [h1 t ht, hF t (hall t ht)]) hx
        refine ⟨s, N, fun L' hL' => by simp only [exReg, hL]; exact h4 L' hL', F', fun t ht => ?_, by rw [h5]; exact h⟩
        rw [h3 t ht]
        split
        · rename_i hm
          exact h6 t (List.mem_append_right _ hm)
        · rename_i hm
          rw [hF t ht]
          exact (draw_else (fun i o ho e => hm (dsts_mem _ (mem i o ho) e)) (h4 N (Nat.le_refl _))).symm
  · cases hp
end
end Go.Proofs.YtejdaljcplbaeaaGreatDoor.Ex
