/- The plain runner: operations in a row, and code. What is said of regions whose order is open is a premise here. -/
import Derived.Test.YtfcfliclmjikkaaGreatDoorExr
namespace Go.Proofs.YtfcfliclmjikkaaGreatDoor.Ex
open Go
set_option linter.unusedVariables false
set_option linter.unusedSimpArgs false
section
variable {E : Env} {γ : Cx} {N B nt : Nat} {w : World} {F : Fr} {a : Act} {ρ : Option Nat}

theorem stepR_scope {P : Program} {b : Frame} {a : Act} {k : List Item} {cs : List Frame} {w : World} {c : Code} : step P (lone (b.atR a (.code (.scope c) :: k)) cs w) = .next (lone (b.atR a (.code c :: .inScope c :: k)) cs w) :=
  step_lone_go (by simp [stepG, stepG.exec, Frame.atR])
theorem stepR_inScope {P : Program} {b : Frame} {a : Act} {k : List Item} {cs : List Frame} {w : World} {c : Code} : step P (lone (b.atR a (.inScope c :: k)) cs w) = .next (lone (b.atR a k) cs w) :=
  step_lone_go (by simp [stepG, stepG.exec, Frame.atR])
theorem wpIn_scope_straight {P : Program} {F : Fence} {n : Nat} {a : Act} {w : World} {Q : Exit → Act → World → Prop} {c : Code} (h : c.wpIn F n P (Exit.noGoto Q) a w) : (Code.scope c).wpIn F n P Q a w := by
  intro b k cs hro hb hr
  have h0 : (lone (b.atR a (.code (.scope c) :: k)) cs w).fenced P F := fenced_calm hb hr rfl
  obtain ⟨e, a₁, w₁, hq, harr⟩ := h b (.inScope c :: k) cs hro hb hr
  cases e with
  | normal => exact ⟨.normal, a₁, w₁, hq, .head h0 stepR_scope (StepsIn.trans harr (.one (fenced_calm hb hr rfl) stepR_inScope))⟩
  | exit id =>
    have hx : exitTo id (.inScope c :: k) = exitTo id k := by simp [exitTo]
    exact ⟨.exit id, a₁, w₁, hq, fun k' hk => .head h0 stepR_scope (harr.1 k' (by rw [hx]; exact hk)),
      fun hr' hk => let ⟨k₁, h1, h2⟩ := harr.2 hr' (by rw [hx]; exact hk); ⟨k₁, h1, .head h0 stepR_scope h2⟩⟩
  | goto l => exact hq.elim
  | ret => exact ⟨_, a₁, w₁, hq, .of_steps (.one h0 stepR_scope) harr⟩
  | panic ch => exact ⟨_, a₁, w₁, hq, .of_steps (.one h0 stepR_scope) harr⟩
  | outgrown => exact ⟨_, a₁, w₁, hq, .of_steps (.one h0 stepR_scope) harr⟩

theorem SR.next {H : HM} {n n' : Nat} (hs : SR E γ N B nt F H a w) {γ' : Cx} {H' : HM} {w' : World} (hx : Nxt γ H w n γ' H' w' n') (hr : Rel E γ' N H' w') {d : Option Tmp} {v : AV} {v' : Value} (hv : VR γ' v v') {F' : Fr} (hp : putA nt F d v = some F') : SR E γ' N B nt F' H' (a.put d v') w' :=
  ⟨hr, put_ok (hs.fr.mono hx.le) hv hp hs.size, Nat.le_trans hs.low hx.size, by rw [put_size]; exact hs.size, hs.defs.next hx (put_defers _ _)⟩

/-- A block that is none of the runner's memory is turned. -/
theorem Rel.putObj {H : HM} (h : Rel E γ N H w) {D : Nat} (hN : N ≤ D) (hd : ∀ id k l, H id = some k → γ.loc id = some l → l.1 ≠ D) (o : Obj) : Rel E γ N H (w.putObj D o) where
  blk := fun hk => by
    obtain ⟨β, ω, σ, hb⟩ := h.blk hk
    exact ⟨β, ω, σ, hb.keep (.refl _) (World.putObj_heap_other (hd _ _ _ hk hb.loc))⟩
  low := fun hl => by rw [World.putObj_size]; exact h.low hl
  inj := h.inj
  glob := fun hg => by
    obtain ⟨h1, rv, h2, h3⟩ := h.glob hg
    exact ⟨h1, rv, (cell?_heap (World.putObj_heap_other (by omega)) 0).trans h2, h3⟩
  sym := h.sym
theorem Nxt.putObj {H H' : HM} {γ' : Cx} {w' : World} {n n' : Nat} (h : Nxt γ H w n γ' H' w' n') {D : Nat} (hD : w.heap.size ≤ D) (o : Obj) : Nxt γ H w n γ' H' (w'.putObj D o) n' where
  le := h.le
  size := by rw [World.putObj_size]; exact h.size
  keep := fun β hβ hf => by rw [World.putObj_heap_other (by omega)]; exact h.keep β hβ hf
  img := h.img
  dom := h.dom
  num := h.num
  still := h.still.trans ⟨rfl, rfl, rfl⟩
  new := h.new
theorem Marks.putObj {Z : FuncId → Bool} {H : HM} (h : Marks Z B γ H a w) {D : Nat} (hD : { target := .collected D, args := #[] } ∉ a.defers) (o : Obj) : Marks Z B γ H a (w.putObj D o) :=
  ⟨by rw [World.putObj_size]; exact h.base, h.nd, fun d hd => by
    refine (h.each d hd).imp id fun ⟨D', h1, h2, h3, h4⟩ => ?_
    refine ⟨D', h1, h2, ?_, h4⟩
    rw [World.putObj_heap_other (fun e => hD (by rw [← e, ← h1]; exact hd))]
    exact h3⟩

/-- Names that are free stay so, but for those that were given. -/
theorem free_rest {H H' : HM} {w' : World} {n n' n'' : Nat} {γ' : Cx} (hx : Nxt γ H w n γ' H' w' n') (h1 : n' ≤ n'') (hf : ∀ id, n ≤ id → id < n'' → γ.loc id = none) : ∀ id, n' ≤ id → id < n'' → γ'.loc id = none := fun id a b => by
  cases hl : γ'.loc id with
  | none => rfl
  | some l =>
    rcases hx.dom hl with ⟨l0, h0⟩ | ⟨_, h2⟩
    · rw [hf id (Nat.le_trans hx.num a) b] at h0; cases h0
    · omega

theorem SR.defer {H : HM} (hs : SR E γ N B nt F H a w) {g : FuncId} {x : Value} (hg : E.quiet g = true) : SR E γ N B nt F H { a with defers := { target := .fn (.func g) #[x], args := #[] } :: a.defers } w :=
  ⟨hs.rel, hs.fr, hs.low, hs.size, hs.defs.base, List.pairwise_cons.2 ⟨fun _ _ _ => ⟨g, x, hg, rfl⟩, hs.defs.nd⟩, fun d hd => by
    rcases List.mem_cons.1 hd with rfl | hd
    · exact .inl ⟨g, x, hg, rfl⟩
    · exact hs.defs.each d hd⟩

theorem exOne_ok {call : CallF} (hcall : CallOk E call) (hnum : NumOk call) (ok : TyOk E) {ops : Array Oper} {Q : Exit → Act → World → Prop} {o : Oper} {H : AH} {s : St} (ho : exOne E call nt ops o F H = some s) (hs : SR E γ N B nt F H.bs.get a w) (hf : ∀ id, H.n ≤ id → id < s.H.n → γ.loc id = none) {K : Act → World → Prop}
    (hK : ∀ γ' a' w', SR E γ' N B nt s.F s.H.bs.get a' w' → Nxt γ H.bs.get w H.n γ' s.H.bs.get w' s.H.n → K a' w') : if Region.wanted o (yielded ops a.tmps) = true then o.wpIn (rd ρ) 0 E.P a w K Q else (∀ f, o.about E.P w a.eval = some f → (rd ρ).fn f) ∧ K (a.put o.dst undef) w := by
  unfold exOne at ho
  split at ho
  · rename_i hw
    rw [wanted_ok hs.fr hw, if_pos rfl]
    split at ho
    · rename_i r hr
      exact wp_of_fin hcall ok hs hr ho hf (fun γ' v v' w' hv hp hrel hx => hK _ _ _ (hs.next hx hrel hv hp) hx)
    · cases ho
  · rename_i hw
    rw [wanted_ok hs.fr hw, if_neg (by simp)]
    split at ho
    · rename_i F' hp
      simp only [Option.some.injEq] at ho
      subst ho
      have hx : Nxt γ H.bs.get w H.n γ H.bs.get w H.n := .refl _ _ _ _
      exact ⟨fun _ _ => trivial, hK _ _ _ (hs.next hx hs.rel undef_ok hp) hx⟩
    · cases ho
  · cases ho

theorem deferA_ok (hF : FRel γ F a) {o : Oper} (h : deferA E F o = true) : ∃ c f g x, o.op = .defer c ∧ o.guard = none ∧ o.dst = none ∧ c.callee = .value f ∧ c.args = #[] ∧ E.quiet g = true ∧ a.eval f = .func (.func g) #[] #[x] := by
  unfold deferA at h
  split at h
  · rename_i c h1 h2 h3
    split at h
    · rename_i f h4 h5
      split at h
      · rename_i g y hv
        have hp := opA_ok hF hv
        generalize hg : a.eval f = gv at hp
        cases hp with
        | func k1 k2 =>
          rename_i first' cap'
          have : first' = #[] := by
            apply Array.ext'
            generalize first'.toList = l at k1
            cases k1
            rfl
          subst this
          obtain ⟨x, rfl⟩ : ∃ x, cap' = #[x] := by
            obtain ⟨l⟩ := cap'
            change VRs _ [y] l at k2
            cases k2 with
            | cons q1 q2 => cases q2; exact ⟨_, rfl⟩
          exact ⟨c, f, g, x, h1, h2, h3, h4, by apply Array.ext'; simpa using h5, h, hg⟩
      · cases h
    · cases h
  · cases h

theorem exList_ok {call : CallF} (hcall : CallOk E call) (hnum : NumOk call) (ok : TyOk E) {ops : Array Oper} {Q : Exit → Act → World → Prop} :
    ∀ (l : List Oper) {γ : Cx} {F : Fr} {H : AH} {a : Act} {w : World} {s : St}, (ρ = none ∨ (l.all fun o => !isDefer o.op) = true) → exList E call nt ops l F H = some s → SR E γ N B nt F H.bs.get a w → (∀ id, H.n ≤ id → id < s.H.n → γ.loc id = none) →
      (∀ γ' a' w', SR E γ' N B nt s.F s.H.bs.get a' w' → Nxt γ H.bs.get w H.n γ' s.H.bs.get w' s.H.n → Q .normal a' w') → wpListIn (rd ρ) 0 E.P ops Q l a w
  | [], γ, F, H, a, w, s, hρ, h, hs, hf, K => by
    simp only [exList, Option.some.injEq] at h
    subst h
    exact wpListIn_nil (K γ a w hs (.refl _ _ _ _))
  | o :: l, γ, F, H, a, w, s, hρ, h, hs, hf, K => by
    simp only [exList] at h
    have hρ' : ρ = none ∨ (l.all fun o => !isDefer o.op) = true := hρ.imp id fun q => by
      rw [List.all_cons, Bool.and_eq_true] at q
      exact q.2
    cases ho : exOne E call nt ops o F H with
    | none =>
      simp only [ho] at h
      split at h
      · rename_i hd
        obtain ⟨c, f, g, x, h1, h2, h3, h4, h5, h6, h7⟩ := deferA_ok hs.fr hd
        have hρ0 : ρ = none := hρ.resolve_right (by simp [isDefer, h1])
        refine wpListIn_step fun K' hK' => ?_
        have hw : Region.wanted o (yielded ops a.tmps) = true := by unfold Region.wanted; rw [h2]
        rw [hw, if_pos rfl]
        refine ⟨fun _ _ => trivial, ?_⟩
        have hsem : (o.semAt ρ a.eval).run E.P w = .ok (.defer { target := .fn (.func g) #[x], args := #[] }) w := by
          rw [hρ0, Oper.semAt_none]
          simp only [execOp, h1, resolve, h4, h5, h7]
          simp [Deferred.ofValue, go_sem]
        show o.uponIn (rd ρ) 0 E.P a K' Q ((o.semAt ρ a.eval).run E.P w)
        rw [hsem, Oper.uponIn_defer, h3]
        exact hK' _ _ (exList_ok hcall hnum ok l hρ' h (hs.defer h6) hf K)
      · cases h
    | some s1 =>
      simp only [ho] at h
      have n1 := exOne_num hnum ho
      have n2 := exList_num hnum h
      refine wpListIn_step fun K' hK' => ?_
      exact exOne_ok hcall hnum ok ho hs (fun id a b => hf id a (by omega)) (fun γ' a' w' hs' hx => hK' _ _ (exList_ok hcall hnum ok l hρ' h hs' (free_rest hx n2 hf) (fun γ2 a2 w2 hs2 hx2 => K γ2 a2 w2 hs2 (hx.trans hx2))))

/-- A region whose order is open does as the runner does. -/
def DrawOk (E : Env) (nt : Nat) (call : CallF) : Prop := ∀ {ops : Array Oper} {id : Nat} {F : Fr} {H : AH} {s : St}, exReg E call nt ops true F H = some s → ∀ {γ : Cx} {N B : Nat} {ρ : Option Nat} {a : Act} {w : World} {Q : Exit → Act → World → Prop}, SR E γ N B nt F H.bs.get a w →
  (∀ id, H.n ≤ id → id < s.H.n → γ.loc id = none) → (∀ γ' a' w', SR E γ' N B nt s.F s.H.bs.get a' w' → Nxt γ H.bs.get w H.n γ' s.H.bs.get w' s.H.n → Q .normal a' w') → (Code.region id ops true).wpIn (rd ρ) 0 E.P Q a w

def Ext.real : Ext → Exit
  | .normal => .normal
  | .exit id => .exit id
  | .ret => .ret

/-- What a piece of code is said to do. -/
def CodeOk (E : Env) (nt : Nat) (call : CallF) (n : Nat) : Prop := ∀ {c : Code} {F : Fr} {H : AH} {e : Ext} {s : St}, exC E call nt n c F H = some (e, s) → ∀ {γ : Cx} {N B : Nat} {ρ : Option Nat} {a : Act} {w : World} {Q : Exit → Act → World → Prop}, (ρ = none ∨ noRange c = true) → SR E γ N B nt F H.bs.get a w →
  (∀ id, H.n ≤ id → id < s.H.n → γ.loc id = none) → (∀ γ' a' w', SR E γ' N B nt s.F s.H.bs.get a' w' → Nxt γ H.bs.get w H.n γ' s.H.bs.get w' s.H.n → Q e.real a' w') → c.wpIn (rd ρ) 0 E.P Q a w
def LoopOk (E : Env) (nt : Nat) (call : CallF) (n : Nat) : Prop := ∀ {c : Code} {F : Fr} {H : AH} {e : Ext} {s : St}, exC E call nt n (.loop c) F H = some (e, s) → ∀ {γ : Cx} {N B : Nat} {ρ : Option Nat} {a : Act} {w : World} {Q : Exit → Act → World → Prop}, (ρ = none ∨ noRange c = true) → SR E γ N B nt F H.bs.get a w →
  (∀ id, H.n ≤ id → id < s.H.n → γ.loc id = none) → (∀ γ' a' w', SR E γ' N B nt s.F s.H.bs.get a' w' → Nxt γ H.bs.get w H.n γ' s.H.bs.get w' s.H.n → Q e.real a' w') → Code.roundsIn (rd ρ) 0 E.P c Q n a w

structure FnOk (E : Env) : Prop where
  fn : ∀ {f : FuncId} {i : FI}, E.fn.get f = some i → ∃ fn, E.P.funcs[f]? = some fn ∧ fn.body = some i.body ∧ fn.ntmps = i.ntmps ∧ fn.results.toList = i.results ∧ fn.name ≠ "runtime.NumGoroutine"
  quiet : ∀ g, E.quiet g = true → QuietFn E.P g


theorem callFunc_run {P : Program} {f : FuncId} {fn : Func} {c : Code} {args : Array Value} (h1 : P.funcs[f]? = some fn) (h2 : fn.body = some c) (h3 : fn.name ≠ "runtime.NumGoroutine") : (callFunc f args).run P w = .ok (.enter f args) w := by
  simp [callFunc, h1, h2, h3]

/-- What a function hands back. -/
theorem results_ok (ok : TyOk E) {H : AH} (h : Rel E γ N H.bs.get w) (hF : FRel γ F a) : ∀ {l : List ResultVar} {r : List AV}, resultsA E F H l = some r →
    ∃ vs, (l.mapM fun (x : ResultVar) => match x with | .tmp t => (pure (a.tmps.getD t undef) : Sem Value) | .cell b t => do loadVar t (← asAddr (a.tmps.getD b undef))).run E.P w = .ok vs w ∧ VRs γ r vs
  | [], r, h' => by
    simp only [resultsA, Option.some.injEq] at h'
    subst h'
    exact ⟨[], rfl, .nil⟩
  | .tmp t :: l, r, h' => by
    simp only [resultsA] at h'
    split at h'
    · rename_i r' hr
      simp only [Option.some.injEq] at h'
      subst h'
      obtain ⟨vs, h1, h2⟩ := results_ok ok h hF hr
      refine ⟨a.tmps.getD t undef :: vs, ?_, .cons (hF t) h2⟩
      simp only [List.mapM_cons, Sem.run_bind, Sem.run_pure, Result.andThen_ok, h1]
    · cases h'
  | .cell b t :: l, r, h' => by
    simp only [resultsA] at h'
    split at h'
    · rename_i β o hb
      split at h'
      · rename_i v hv
        split at h'
        · rename_i r' hr
          simp only [Option.some.injEq] at h'
          subst h'
          obtain ⟨vs, h1, h2⟩ := results_ok ok h hF hr
          have hp := hF b
          rw [hb] at hp
          obtain ⟨v', k1, k2⟩ := loadT_ok ok h hv hp
          generalize hbv : a.tmps.getD b undef = bv at hp k1
          cases hp
          refine ⟨v' :: vs, ?_, .cons k2 h2⟩
          simp only [Instr.loadAt, Instr.sureAddr, pure_bind] at k1
          have hadd : ∀ A : Addr, asAddr (Value.pointer (some A)) = pure A := fun _ => rfl
          simp only [List.mapM_cons, Sem.run_bind, hbv, hadd, Sem.run_pure, Result.andThen_ok, k1, h1]
        · cases h'
      · cases h'
    · cases h'

theorem oneOr_ok {r : List AV} {vs : List Value} (h : VRs γ r vs) : VR γ (oneOr r) (if h : vs.toArray.size = 1 then vs.toArray[0] else .tuple vs.toArray) := by
  cases h with
  | nil => exact .tup .nil
  | cons h1 h2 =>
    cases h2 with
    | nil => exact h1
    | cons h2 h3 =>
      simp only [oneOr]
      rw [dif_neg (by simp)]
      exact .tup (by simpa using VRs.cons h1 (.cons h2 h3))

theorem results_run (ok : TyOk E) {H : AH} (h : Rel E γ N H.bs.get w) (hF : FRel γ F a) {fn : Func} {r : List AV} (hr : resultsA E F H fn.results.toList = some r) : ∃ v, (results fn a.tmps).run E.P w = .ok v w ∧ VR γ (oneOr r) v := by
  obtain ⟨vs, h1, h2⟩ := results_ok ok h hF hr
  refine ⟨_, ?_, oneOr_ok h2⟩
  unfold results
  rw [Array.mapM_eq_mapM_toList]
  simp only [Sem.run_bind, Sem.run_map, Sem.run_pure]
  change ((Sem.run E.P (fn.results.toList.mapM fun (x : ResultVar) => match x with | .tmp t => (pure (a.tmps.getD t undef) : Sem Value) | .cell b t => do loadVar t (← asAddr (a.tmps.getD b undef))) w).andThen _).andThen _ = _
  rw [h1]
  simp only [Result.andThen_ok]

/-- The marks are come to, one behind the other. -/
theorem IsQuiet.not_mark {Z : FuncId → Bool} {D : Nat} : ¬ IsQuiet Z { target := .collected D, args := #[] } := fun ⟨_, _, _, h⟩ => by cases h
theorem leaves_marks {P : Program} {Z : FuncId → Bool} (hq : ∀ g, Z g = true → QuietFn P g) {fn : Func} {tmps : Array Value} {K : Ending → World → Prop} {H : HM} {T : World → Prop} (hT : ∀ {w : World} {D : Nat} (o : Obj), B ≤ D → (∀ id k l, H id = some k → γ.loc id = some l → l.1 ≠ D) → T w → T (w.putObj D o)) : ∀ (ds : List Deferred) {a : Act} {w : World}, a.defers = ds → Marks Z B γ H a w → T w →
    (∀ w', T w' → ∃ v, (results fn tmps).run P w' = .ok v w' ∧ K (.returned v) w') → LeavesInM Fence.wide 0 P fn tmps K ds .returning w
  | [], a, w, he, hm, ht, k => k w ht
  | d :: ds, a, w, he, hm, ht, k => by
    have hm2 : Marks Z B γ H ({ a with defers := ds } : Act) w := ⟨hm.base, by have := hm.nd; rw [he] at this; exact (List.pairwise_cons.1 this).2, fun d hd => hm.each d (by rw [he]; exact List.mem_cons_of_mem _ hd)⟩
    rcases hm.each d (by rw [he]; simp) with ⟨g, x, hg, rfl⟩ | ⟨D, h1, h2, h3, h4⟩
    · obtain ⟨q1, q2⟩ := hq g hg x w
      refine ⟨by simp, .inr ⟨fun q => (by cases q), .func g, #[x], g, #[x], rfl, by simpa [invoke] using q1, fun _ _ => trivial, q2.mono ?_⟩⟩
      rintro e u w' ⟨⟨v, rfl⟩, rfl, rfl⟩
      exact leaves_marks hq hT ds (a := { a with defers := ds }) rfl hm2 ht k
    have hnd : { target := .collected D, args := #[] } ∉ ds := fun hmem => by
      have := hm.nd
      rw [he, h1] at this
      exact IsQuiet.not_mark ((List.pairwise_cons.1 this).1 _ hmem rfl)
    refine ⟨by simp, .inl ⟨D, _, by rw [h1], run_takeDeferred h3, ?_⟩⟩
    exact leaves_marks hq hT ds (a := { a with defers := ds }) rfl (hm2.putObj hnd _) (hT _ h2 h4 ht) k
end
end Go.Proofs.YtfcfliclmjikkaaGreatDoor.Ex
