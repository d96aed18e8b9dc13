/- The plain runner: code. What is said of regions whose order is open is a premise here. -/
import Derived.Test.YtfcfliclmjikkaaGreatDoorExsa
import Derived.Below
import Derived.RangeFuncOwn
namespace Go.Proofs.YtfcfliclmjikkaaGreatDoor.Ex
open Go
set_option linter.unusedVariables false
set_option linter.unusedSimpArgs false
section
variable {E : Env} {γ : Cx} {N B nt : Nat} {w : World} {F : Fr} {a : Act} {ρ : Option Nat}


def mkRec (fn : FuncId) (tmps : Array Value) (ps : Array Tmp) (assign body : Code) (D : Nat) : LoopState → Option Code → Loop :=
  fun st pe => { state := st, pending := pe, fn, tmps, params := ps, assign, body, defers := D }

theorem putAll_ok {γ : Cx} {nt : Nat} : ∀ {ps : List Tmp} {xs : List AV} {xs' : List Value} {F F1 : Fr} {tmps : Array Value}, putAllA nt F ps xs = some F1 → VRs γ xs xs' → FRel γ F { tmps := tmps, defers := [] } → nt ≤ tmps.size →
    ps.length = xs'.length ∧ FRel γ F1 { tmps := (ps.zip xs').foldl (fun t (q : Tmp × Value) => t.setIfInBounds q.1 q.2) tmps, defers := [] } ∧ ((ps.zip xs').foldl (fun t (q : Tmp × Value) => t.setIfInBounds q.1 q.2) tmps).size = tmps.size
  | [], xs, xs', F, F1, tmps, h, hv, hF, hs => by
    cases hv with
    | nil =>
      simp only [putAllA, Option.some.injEq] at h
      subst h
      exact ⟨rfl, by simpa using hF, rfl⟩
    | cons _ _ => simp [putAllA] at h
  | p :: ps, xs, xs', F, F1, tmps, h, hv, hF, hs => by
    cases hv with
    | nil => simp [putAllA] at h
    | cons h1 h2 =>
      rename_i v v' l l'
      simp only [putAllA] at h
      split at h
      · rename_i hp
        have hF2 : FRel γ (F.set p v) { tmps := tmps.setIfInBounds p v', defers := [] } := fun t => by
          rw [tmpA_set]
          simp only
          rw [getD_set]
          by_cases e : p = t
          · rw [if_pos e, if_pos ⟨e, Nat.lt_of_lt_of_le hp hs⟩]; exact h1
          · rw [if_neg e, if_neg (fun q => e q.1)]; exact hF t
        obtain ⟨k1, k2, k3⟩ := putAll_ok h h2 hF2 (by simpa using hs)
        refine ⟨by simp [k1], by simpa using k2, by simpa using k3⟩
      · cases h

/-- One round. -/
theorem rounds_ok {call : CallF} {n : Nat} (ihC : CodeOk E nt call n) {γL : Cx} {ps : Array Tmp} {assign body : Code} (ha : noRange assign = true) (hb : noRange body = true) (hF : FRel γL F a) (hsz : nt ≤ a.tmps.size) {r D : Nat} {fn : FuncId} (hNr : N ≤ r) (hnum : ∀ {c F H e s}, exC E call nt n c F H = some (e, s) → H.n ≤ s.H.n) :
    RoundsOk E N γL (roundA (exC E call nt n) nt F ps.toList assign body) r (mkRec fn a.tmps ps assign body D) := by
  intro xs H H' e h γ w xs' hle hrel hN hargs hf hlp
  unfold roundA at h
  split at h
  · rename_i F1 hput
    split at h
    · rename_i s1 h1
      split at h
      · rename_i e2 s2 h2
        simp only [Option.some.injEq, Prod.mk.injEq] at h
        obtain ⟨rfl, rfl⟩ := h
        obtain ⟨k1, k2, k3⟩ := putAll_ok (tmps := a.tmps) hput hargs (fun t => (hF t).mono hle) hsz
        have hfold : ((ps.zip xs'.toArray).foldl (fun tmps (t, a) => tmps.setIfInBounds t a) a.tmps) = (ps.toList.zip xs').foldl (fun t (q : Tmp × Value) => t.setIfInBounds q.1 q.2) a.tmps := by
          rw [← Array.foldl_toList]
          simp
        have n1 := hnum h1
        have n2 := hnum h2
        refine ⟨fn, _, assign, body, run_yield hlp.at_ (by simp [mkRec, ← k1]), roundIn_of_wpIn trivial ?_⟩
        show assign.wpIn (rd (some r)) 0 E.P _ { tmps := ((ps.zip xs'.toArray).foldl (fun tmps (t, a) => tmps.setIfInBounds t a) a.tmps), defers := [] } w
        rw [hfold]
        refine ihC h1 (B := w.heap.size) (.inr ha) ⟨hrel, k2, hN, by rw [k3]; exact hsz, .none (Nat.le_refl _) rfl⟩ (fun id q1 q2 => hf id q1 (by omega)) (fun γ1 a1 w1 hs1 hx1 => ?_)
        have hl1 := hlp.next hx1
        have hnm : ({ target := .collected r, args := #[] } : Deferred) ∉ a1.defers := fun hm => by
          obtain ⟨D', q1, q2, _⟩ := (hs1.defs.each _ hm).resolve_left IsQuiet.not_mark
          simp only [Deferred.mk.injEq, Target.collected.injEq, and_true] at q1
          have := hlp.lt
          omega
        refine ⟨_, run_beginRound hl1.at_ rfl, ?_⟩
        refine ihC h2 (ρ := some r) (B := w.heap.size) (.inr hb) ⟨hs1.rel.putObj hNr hl1.off _, hs1.fr, by rw [World.putObj_size]; exact hs1.low, hs1.size, hs1.defs.putObj hnm _⟩ (free_rest hx1 n2 hf) (fun γ2 a2 w2 hs2 hx2 => ?_)
        have hlt1 : r < w1.heap.size := hl1.lt
        have hbusy := (hx2.keep r (by rw [World.putObj_size]; exact hlt1) hl1.off).trans (World.putObj_heap_same hlt1)
        have hoff := off_next hl1.off (by rw [World.putObj_size]; exact hlt1) (hx2.but (r := r))
        have hlt2 : r < w2.heap.size := (Array.getElem?_eq_some_iff.1 hbusy).1
        have hbut := ((hx1.but (r := r)).putObj (.inl rfl) _).trans hx2.but
        cases e2 with
        | normal =>
          exact ⟨_, _, run_endRound none hbusy, rfl, γ2, hs2.rel.putObj hNr hoff _, hbut.putObj (.inl rfl) _, ⟨World.putObj_heap_same hlt2, hoff⟩⟩
        | ret =>
          exact ⟨_, _, run_endRound (some .ret) hbusy, rfl, γ2, hs2.rel.putObj hNr hoff _, hbut.putObj (.inl rfl) _, ⟨World.putObj_heap_same hlt2, hoff⟩⟩
        | exit id =>
          exact ⟨_, _, run_endRound (some (.exit id)) hbusy, rfl, γ2, hs2.rel.putObj hNr hoff _, hbut.putObj (.inl rfl) _, ⟨World.putObj_heap_same hlt2, hoff⟩⟩
      · cases h
    · cases h
  · cases h

/-- A name for what is none of the runner's memory. -/
theorem bind_name {H : HM} {id r : Nat} {w' : World} (h : Rel E γ N H w) (hid : γ.loc id = none) (hw : ∀ β, β < w.heap.size → w'.heap[β]? = w.heap[β]?) (hN : N ≤ w.heap.size) (h1 : w.heap.size ≤ r) (h2 : r < w'.heap.size) (hst : Same w w') :
    Rel E (γ.bind id (r, 0, 0)) N H w' ∧ Nxt γ H w id (γ.bind id (r, 0, 0)) H w' (id + 1) := by
  have hle := Cx.le_bind (r, 0, 0) hid
  have hne : ∀ {i k}, H i = some k → i ≠ id := fun {i k} hk e => by
    obtain ⟨β, ω, σ, hb⟩ := h.blk hk
    have := hb.loc
    rw [e, hid] at this
    cases this
  refine ⟨⟨fun {i k} hk => ?_, fun {i l} hl => ?_, fun {i j k k' l l'} a b c d => h.inj a b (by rwa [Cx.bind_ne _ (hne a)] at c) (by rwa [Cx.bind_ne _ (hne b)] at d), fun {g v} hg => ?_, h.sym⟩, ⟨hle, by omega, fun β hβ _ => hw β hβ, fun {i k l} hk hl => .inr ⟨i, k, l, hk, by rwa [Cx.bind_ne _ (hne hk)] at hl, rfl⟩, fun {i l} hl => ?_, by omega, hst, fun hk => .inl ⟨_, hk⟩⟩⟩
  · obtain ⟨β, ω, σ, hb⟩ := h.blk hk
    exact ⟨β, ω, σ, hb.keep hle (hw β (h.low hb.loc).2)⟩
  · by_cases e : i = id
    · subst e
      rw [Cx.bind_same] at hl
      simp only [Option.some.injEq] at hl
      subst hl
      exact ⟨by show N ≤ r; omega, h2⟩
    · rw [Cx.bind_ne _ e] at hl
      have := h.low hl
      omega
  · obtain ⟨g1, rv, g2, g3⟩ := h.glob hg
    exact ⟨g1, rv, (cell?_heap (hw g (by omega)) 0).trans g2, g3.mono hle⟩
  · by_cases e : i = id
    · subst e; exact .inr ⟨Nat.le_refl _, by omega⟩
    · rw [Cx.bind_ne _ e] at hl
      exact .inl ⟨_, hl⟩

theorem range_ok {call : CallF} (hcall : CallOk E call) (hnum : NumOk call) (ok : TyOk E) (fok : FnOk E) (hdraw : ∀ nt, DrawOk E nt call) {n : Nat} (ihC : CodeOk E nt call n) {g : Operand} {ps : Array Tmp} {assign body : Code} {H : AH} {e : Ext} {s : St}
    (h : (match noRange assign && noRange body with
      | false => none
      | true => match opA F g with
        | some (.func gf [] cap) => match iterA E call (roundA (exC E call nt n) nt F ps.toList assign body) n gf cap H with
          | some (e, H') => some (e, ⟨F, H'⟩)
          | none => none
        | _ => none) = some (e, s)) {Q : Exit → Act → World → Prop} (hs : SR E γ N B nt F H.bs.get a w) (hf : ∀ id, H.n ≤ id → id < s.H.n → γ.loc id = none)
    (K : ∀ γ' a' w', SR E γ' N B nt s.F s.H.bs.get a' w' → Nxt γ H.bs.get w H.n γ' s.H.bs.get w' s.H.n → Q e.real a' w') : (Code.rangeFunc g ps assign body).wpIn (rd none) 0 E.P Q a w := by
  split at h
  · cases h
  · rename_i hnr
    rw [Bool.and_eq_true] at hnr
    split at h
    · rename_i gf cap hg
      split at h
      · rename_i e2 H2 h2
        simp only [Option.some.injEq, Prod.mk.injEq] at h
        obtain ⟨rfl, rfl⟩ := h
        have hexn : ∀ {c F H e s}, exC E call nt n c F H = some (e, s) → H.n ≤ s.H.n := fun q => exC_num hnum q
        have hrn : ∀ {xs H e H'}, roundA (exC E call nt n) nt F ps.toList assign body xs H = some (e, H') → H.n ≤ H'.n := fun q => roundA_num hexn q
        have hn2 : H.n + 1 ≤ H2.n := iterA_num hnum hrn h2
        have hid : γ.loc H.n = none := hf H.n (Nat.le_refl _) hn2
        have hv := opA_ok hs.fr hg
        generalize hgv : a.eval g = gv at hv
        cases hv
        rename_i a0 c' hv1 hv2
        have ha0 : a0 = #[] := by
          have := hv1.length
          simp at this
          exact Array.eq_empty_of_size_eq_zero this.symm
        subst ha0
        refine wpIn_rangeFunc (fun fn hfn => ?_)
        obtain ⟨W1, hW1⟩ : ∃ W1, (w.alloc (.deferred (some []))).alloc (.loop (mkRec fn a.tmps ps assign body w.heap.size .ready none)) = W1 := ⟨_, rfl⟩
        have hsz : W1.heap.size = w.heap.size + 2 := by rw [← hW1]; simp
        have hL1 : W1.heap[w.heap.size + 1]? = some (.loop (mkRec fn a.tmps ps assign body w.heap.size .ready none)) := by
          rw [← hW1]; have := World.alloc_heap_new (w.alloc (.deferred (some []))) (.loop (mkRec fn a.tmps ps assign body w.heap.size .ready none)); rwa [World.size_alloc] at this
        have hK1 : W1.heap[w.heap.size]? = some (.deferred (some [])) := by
          rw [← hW1]; exact (RowKit.Below.heap_alloc _ _ _ (by simp)).trans (World.alloc_heap_new w _)
        have hold : ∀ β, β < w.heap.size → W1.heap[β]? = w.heap[β]? := fun β hβ => by
          rw [← hW1]; exact (RowKit.Below.heap_alloc _ _ _ (by simp; omega)).trans (RowKit.Below.heap_alloc _ _ _ hβ)
        obtain ⟨hrel1, hnx1⟩ := bind_name (r := w.heap.size + 1) hs.rel hid hold hs.low (by omega) (by omega) (by rw [← hW1]; exact ⟨rfl, rfl, rfl⟩)
        have hoff0 : ∀ (D : Nat), w.heap.size ≤ D → ∀ id k l, H.bs.get id = some k → (γ.bind H.n (w.heap.size + 1, 0, 0)).loc id = some l → l.1 ≠ D := fun D hD id k l hk hl => by
          obtain ⟨β, ω, σ, hb⟩ := hs.rel.blk hk
          have hlt := (hs.rel.low hb.loc).2
          have := hnx1.le.loc hb.loc
          rw [this] at hl
          simp only [Option.some.injEq] at hl
          subst hl
          simp only at hlt ⊢
          omega
        have hlp1 : LoopAt (w.heap.size + 1) (mkRec fn a.tmps ps assign body w.heap.size) (γ.bind H.n (w.heap.size + 1, 0, 0)) H.bs.get W1 none := ⟨hL1, hoff0 _ (by omega)⟩
        have hro : RoundsOk E N γ (roundA (exC E call nt n) nt F ps.toList assign body) (w.heap.size + 1) (mkRec fn a.tmps ps assign body w.heap.size) := rounds_ok @ihC hnr.1 hnr.2 hs.fr hs.size (by have := hs.low; omega) hexn
        obtain ⟨hent, hcalls⟩ := iter_ok (w := W1) @hcall @hnum ok fok @hdraw @hro hrn h2 hrel1 (by have := hs.low; omega) hnx1.le (Cx.bind_same _ _ _) (VRs.mono hnx1.le hv2) hlp1 (free_rest hnx1 hn2 hf)
        refine ⟨w.heap.size + 1, [{ target := .collected w.heap.size, args := #[] }], W1, { target := .fn (.func gf) c', args := #[.func (.yield (w.heap.size + 1)) #[] #[]] }, W1, gf, #[.func (.yield (w.heap.size + 1)) #[] #[]] ++ c', W1, ?_, ?_, fun _ _ => trivial, ?_, fun q => (by cases q), ?_⟩
        · rw [← hW1]; exact run_enterLoop_outer _ _ _ _ _
        · simp only [resolve, hgv]
          simp [go_sem]
        · simp [invoke, go_sem, hent]
        · refine CallsIn.mono hcalls ?_
          rintro en w3 ⟨⟨v, rfl⟩, γ', hrel', hnb, hlp'⟩
          have hx : Nxt γ H.bs.get w H.n γ' H2.bs.get w3 H2.n := hnx1.thenBut (by omega) hnb
          have hK3 : w3.heap[w.heap.size]? = some (.deferred (some [])) := (hnb.keep _ (by omega) (by omega) (hoff0 _ (Nat.le_refl _))).trans hK1
          have hoff3 := off_next (hoff0 _ (Nat.le_refl _)) (by omega) hnb
          have hlt3 : w.heap.size + 1 < w3.heap.size := hlp'.lt
          obtain ⟨w4, hw4⟩ : ∃ w4, ∀ o, w3.putObj (w.heap.size + 1) o = w3.putObj (w.heap.size + 1) o := ⟨w3, fun _ => rfl⟩
          have hold3 := hs.defs.next (a' := a) hx rfl
          have hnm : ∀ d ∈ a.defers, d ≠ { target := .collected w.heap.size, args := #[] } ∧ d ≠ { target := .collected (w.heap.size + 1), args := #[] } := fun d hd => by
            rcases hs.defs.each d hd with ⟨g, cap, _, q⟩ | ⟨D', q1, q2, q3, _⟩
            · subst q; exact ⟨fun q => (by cases q), fun q => (by cases q)⟩
            have : D' < w.heap.size := (Array.getElem?_eq_some_iff.1 q3).1
            rw [q1]
            simp only [ne_eq, Deferred.mk.injEq, Target.collected.injEq, and_true]
            omega
          have fin : ∀ o, SR E γ' N B nt F H2.bs.get { a with defers := [{ target := .collected w.heap.size, args := #[] }] ++ a.defers } (w3.putObj (w.heap.size + 1) o) := fun o =>
            ⟨hrel'.putObj (by have := hs.low; omega) hlp'.off _, fun t => (hs.fr t).mono hx.le, by rw [World.putObj_size]; exact Nat.le_trans hs.low hx.size, hs.size,
              ⟨by rw [World.putObj_size]; exact hold3.base, by
                simp only [List.singleton_append]
                exact List.pairwise_cons.2 ⟨fun d' hm e => absurd e.symm (hnm _ hm).1, hs.defs.nd⟩, fun d hd => by
                simp only [List.singleton_append, List.mem_cons] at hd
                rcases hd with rfl | hd
                · exact .inr ⟨w.heap.size, rfl, hs.defs.base, (World.putObj_heap_other (by omega)).trans hK3, hoff3⟩
                · exact (hold3.putObj (D := w.heap.size + 1) (fun hm => (hnm _ hm).2 rfl) o).each d hd⟩⟩
          have hxf : ∀ o, Nxt γ H.bs.get w H.n γ' H2.bs.get (w3.putObj (w.heap.size + 1) o) H2.n := fun o => hx.putObj (by omega) o
          cases e2 with
          | normal => exact ⟨_, _, run_endLoop hlp'.at_ (by simp [pendOf, mkRec]), K γ' _ _ (fin _) (hxf _)⟩
          | ret => exact ⟨_, _, run_endLoop hlp'.at_ (by simp [pendOf, mkRec]), wpIn_ret (K γ' _ _ (fin _) (hxf _))⟩
          | exit id => exact ⟨_, _, run_endLoop hlp'.at_ (by simp [pendOf, mkRec]), wpIn_exit (K γ' _ _ (fin _) (hxf _))⟩
      · cases h
    · cases h

theorem exC_ok {call : CallF} (hcall : CallOk E call) (hnum : NumOk call) (ok : TyOk E) (fok : FnOk E) (hdraw : ∀ nt, DrawOk E nt call) : ∀ n, CodeOk E nt call n ∧ LoopOk E nt call n
  | 0 => ⟨fun h => by simp [exC] at h, fun h => by simp [exC] at h⟩
  | n + 1 => by
    obtain ⟨ihC, ihL⟩ := exC_ok @hcall @hnum ok fok @hdraw n
    have loop : LoopOk E nt call (n + 1) := by
      intro c F H e s h γ N B ρ a w Q hρ hs hf K
      simp only [exC] at h
      rw [roundsIn_succ]
      split at h
      · rename_i s1 h1
        have n1 := exC_num hnum h1
        have n2 := exC_num hnum h
        exact ihC h1 hρ hs (fun id a b => hf id a (by omega)) (fun γ' a' w' hs' hx => ihL h hρ hs' (free_rest hx n2 hf) (fun γ2 a2 w2 hs2 hx2 => K γ2 a2 w2 hs2 (hx.trans hx2)))
      · rename_i r hr
        cases e with
        | normal => exact absurd h (hr s)
        | exit id => exact ihC h hρ hs hf K
        | ret => exact ihC h hρ hs hf K
    refine ⟨?_, loop⟩
    intro c F H e s h γ N B ρ a w Q hρ hs hf K
    cases c with
    | skip =>
      simp only [exC, Option.some.injEq, Prod.mk.injEq] at h
      obtain ⟨rfl, rfl⟩ := h
      exact wpIn_skip (K γ a w hs (.refl _ _ _ _))
    | label l =>
      simp only [exC, Option.some.injEq, Prod.mk.injEq] at h
      obtain ⟨rfl, rfl⟩ := h
      exact wpIn_label (K γ a w hs (.refl _ _ _ _))
    | ret =>
      simp only [exC, Option.some.injEq, Prod.mk.injEq] at h
      obtain ⟨rfl, rfl⟩ := h
      exact wpIn_ret (K γ a w hs (.refl _ _ _ _))
    | exit id =>
      simp only [exC, Option.some.injEq, Prod.mk.injEq] at h
      obtain ⟨rfl, rfl⟩ := h
      exact wpIn_exit (K γ a w hs (.refl _ _ _ _))
    | region id ops draw =>
      simp only [exC] at h
      split at h
      · rename_i s1 h1
        simp only [Option.some.injEq, Prod.mk.injEq] at h
        obtain ⟨rfl, rfl⟩ := h
        cases draw with
        | true => exact hdraw nt h1 hs hf K
        | false =>
          simp only [exReg] at h1
          exact wpIn_region_list (exList_ok hcall hnum ok _ hρ h1 hs hf K)
      · cases h
    | seq x y =>
      simp only [exC] at h
      refine wpIn_seq ?_
      have hρ1 : ρ = none ∨ noRange x = true := hρ.imp id (fun q => by simp only [noRange, Bool.and_eq_true] at q; exact q.1)
      have hρ2 : ρ = none ∨ noRange y = true := hρ.imp id (fun q => by simp only [noRange, Bool.and_eq_true] at q; exact q.2)
      split at h
      · rename_i s1 h1
        have n1 := exC_num hnum h1
        have n2 := exC_num hnum h
        exact ihC h1 hρ1 hs (fun id a b => hf id a (by omega)) (fun γ' a' w' hs' hx => ihC h hρ2 hs' (free_rest hx n2 hf) (fun γ2 a2 w2 hs2 hx2 => K γ2 a2 w2 hs2 (hx.trans hx2)))
      · rename_i r hr
        cases e with
        | normal => exact absurd h (hr s)
        | exit id => exact ihC h hρ1 hs hf K
        | ret => exact ihC h hρ1 hs hf K
    | cond b x y =>
      simp only [exC] at h
      have hρ1 : ρ = none ∨ noRange x = true := hρ.imp id (fun q => by simp only [noRange, Bool.and_eq_true] at q; exact q.1)
      have hρ2 : ρ = none ∨ noRange y = true := hρ.imp id (fun q => by simp only [noRange, Bool.and_eq_true] at q; exact q.2)
      split at h
      · rename_i t hb
        have hp := opA_ok hs.fr hb
        generalize hbv : a.eval b = bv at hp
        cases hp
        split at h
        · exact wpIn_cond_true hbv (ihC h hρ1 hs hf K)
        · exact wpIn_cond_false hbv (ihC h hρ2 hs hf K)
      · cases h
    | block id x =>
      simp only [exC] at h
      refine wpIn_block ?_
      split at h
      · rename_i j s1 h1
        simp only [Option.some.injEq, Prod.mk.injEq] at h
        obtain ⟨h2, rfl⟩ := h
        refine ihC h1 hρ hs hf (fun γ' a' w' hs' hx => ?_)
        have := K γ' a' w' hs' hx
        simp only [Ext.real, Exit.inBlock]
        split at h2
        · rename_i hj; subst h2; rw [if_pos hj]; exact this
        · rename_i hj; subst h2; rw [if_neg hj]; exact this
      · rename_i r hr
        cases e with
        | exit id => exact absurd h (hr id s)
        | normal => exact ihC h hρ hs hf K
        | ret => exact ihC h hρ hs hf K
    | loop x => exact wpIn_loop_rounds (n + 1) (loop h hρ hs hf K)
    | scope x =>
      simp only [exC] at h
      refine wpIn_scope_straight (ihC h hρ hs hf (fun γ' a' w' hs' hx => ?_))
      have := K γ' a' w' hs' hx
      cases e <;> exact this
    | rangeFunc f p x y =>
      simp only [exC] at h
      obtain rfl : ρ = none := hρ.resolve_right (by simp [noRange])
      exact range_ok @hcall @hnum ok fok @hdraw @ihC h hs hf K
    | goto l => simp [exC] at h
    | refuse s => simp [exC] at h
end
end Go.Proofs.YtfcfliclmjikkaaGreatDoor.Ex
