/- The plain runner's operations, one by one. -/
import Derived.Test.YtfcfliclmjikkaaGreatDoorExe
namespace Go.Proofs.YtfcfliclmjikkaaGreatDoor.Ex
open Go
set_option linter.unusedVariables false
set_option linter.unusedSimpArgs false
section
variable {E : Env} {γ : Cx} {N : Nat} {H : AH} {w : World} {F : Fr} {a : Act}

theorem move_ok (h : Rel E γ N H.bs.get w) (hF : FRel γ F a) {x : Operand} {r : R} (hr : vR H (opA F x) = some r) {s : Sem Next} (hs : s = pure (.value (a.eval x))) : Does E γ N H w s r := by
  obtain ⟨v, hv, rfl⟩ := vR_some hr
  exact does_val h (by rw [hs]; rfl) (opA_ok hF hv)

theorem pick_ok (h : Rel E γ N H.bs.get w) (hF : FRel γ F a) {c x y : Operand} {r : R} (hr : pickX F c x y H = some r) :
    Does E γ N H w (do pure (Next.value (if ← asBool (a.eval c) then a.eval x else a.eval y))) r := by
  unfold pickX at hr
  cases hc : opA F c with
  | none => simp [hc] at hr
  | some u =>
    cases u <;> simp [hc] at hr
    rename_i t
    have h1 := opA_ok hF hc
    generalize a.eval c = cv at h1
    cases h1
    cases t <;> simp only at hr
    · obtain ⟨v, hv, rfl⟩ := vR_some hr
      exact does_val h (v' := a.eval y) (by simp [asBool]) (opA_ok hF hv)
    · obtain ⟨v, hv, rfl⟩ := vR_some hr
      exact does_val h (v' := a.eval x) (by simp [asBool]) (opA_ok hF hv)

theorem newR_some {l : List AV} {v : AV} {r : R} (h : newR H l v = some r) : ∃ H', H.new l = some H' ∧ r = .val v H' := by
  unfold newR at h
  cases hn : H.new l with
  | none => simp [hn] at h
  | some H' => simp only [hn, Option.some.injEq] at h; exact ⟨H', rfl, h.symm⟩

/-- A variable is made. -/
theorem newVar_ok (h : Rel E γ N H.bs.get w) (hN : N ≤ w.heap.size) {T : TypeId} {u : Value} {l : List AV} {H' : AH} (hv : VRs γ l u.cells.toList) (hn : H.new l = some H') (hf : ∀ id, H.n ≤ id → id < H'.n → γ.loc id = none)
    {s : Sem Value} (hs : s.run E.P w = .ok (.pointer (some ⟨w.heap.size, 0, none⟩)) (w.alloc (.cells u.cells T))) : Does E γ N H w (asNext s) (.val (.ptr H.n 0) H') := by
  refine does_new h hN hn hf (vs := u.cells.toList) (cs := u.cells) (T := T) (fz := (0, 0)) (run_asNext hs) rfl (fun i hi => by simp) hv (by simp) (fun i hi => by simp) ?_
  have := VR.ptr (γ := γ.bind H.n (w.heap.size, 0, u.cells.size)) (b := H.n) (o := 0) (Cx.bind_same _ _ _)
  simpa using this

theorem alloc_ok (ok : TyOk E) (h : Rel E γ N H.bs.get w) (hN : N ≤ w.heap.size) {t : TypeId} {r : R} (hr : allocX E t H = some r) (hf : ∀ id, H.n ≤ id → id < r.n → γ.loc id = none) :
    Does E γ N H w (asNext (Instr.alloc t true (.tuple #[]))) r := by
  unfold allocX at hr
  cases ht : E.ty.get t with
  | none => simp [ht] at hr
  | some i =>
    obtain ⟨info, d, h1, h2, rfl⟩ := tiOf_ok (ok.ty ht)
    simp only [ht] at hr
    cases hz : zeroOf E.P d info with
    | none => simp [hz] at hr
    | some l =>
      obtain ⟨_, z, hz1, hz2⟩ := zeroOf_ok hz
      simp only [hz] at hr
      obtain ⟨H', hn, rfl⟩ := newR_some hr
      exact newVar_ok (T := t) h hN (absCells_ok hz2) hn hf (by simp [Instr.alloc, zeroValue, typeInfo, h1, hz1, newVar, newRow])

theorem box_ok (h : Rel E γ N H.bs.get w) (hN : N ≤ w.heap.size) (hF : FRel γ F a) {t : TypeId} {x : Operand} {r : R} (hr : boxX F x H = some r) (hf : ∀ id, H.n ≤ id → id < r.n → γ.loc id = none) :
    Does E γ N H w (asNext (Instr.box t (a.eval x))) r := by
  unfold boxX at hr
  cases hx : opA F x with
  | none => simp [hx] at hr
  | some v =>
    simp only [hx] at hr
    obtain ⟨H', hn, rfl⟩ := newR_some hr
    have hv := opA_ok hF hx
    exact newVar_ok (T := t) h hN (hv.cells (.inl (AH.new_ok hn).2.2)) hn hf (by simp [Instr.box, newVar, newRow])

theorem isAgg_run {P : Program} {t : TypeId} {d : TypeDesc} (hu : P.underlying t = some d) : (isAgg t).run P w = .ok (kindOf d).isAgg w := by
  cases d <;> simp [isAgg, run_underlying hu, kindOf, TK.isAgg]

/-- What a variable, or an element, holds. -/
theorem loadT_ok (ok : TyOk E) (h : Rel E γ N H.bs.get w) {t : TypeId} {p v : AV} (hl : loadT E t p H = some v) {p' : Value} (hp : VR γ p p') : ∃ v', (Instr.loadAt t p').run E.P w = .ok v' w ∧ VR γ v v' := by
  unfold loadT at hl
  cases ht : E.ty.get t with
  | none => simp [ht] at hl
  | some i =>
    obtain ⟨info, d, h1, h2, rfl⟩ := tiOf_ok (ok.ty ht)
    simp only [ht] at hl
    cases hp <;> simp only at hl <;> try (cases hl; done)
    case ptr b o β ω σ hloc =>
      by_cases hagg : (kindOf d).isAgg = true
      · rw [if_pos hagg] at hl
        cases hc : loadA H b o info.size with
        | none => simp [hc] at hl
        | some l =>
          simp only [hc, Option.map_some, Option.some.injEq] at hl
          subst hl
          obtain ⟨β', ω', σ', vs, e1, e2, e3, e4, e5, e6⟩ := loadA_ok h hc
          rw [hloc] at e1
          simp only [Option.some.injEq, Prod.mk.injEq] at e1
          obtain ⟨rfl, rfl, rfl⟩ := e1
          have := run_loadCells_list (P := E.P) w _ vs e6
          rw [e3] at this
          refine ⟨.agg vs.toArray, ?_, .agg (by simpa using e2)⟩
          simp [Instr.loadAt, Instr.sureAddr, loadVar, isAgg_run h2, hagg, sizeOf, typeInfo, h1, this]
      · rw [if_neg hagg] at hl
        have hagg' : (kindOf d).isAgg = false := by simpa using hagg
        cases hc : loadA H b o 1 with
        | none => simp [hc] at hl
        | some l =>
          obtain ⟨β', ω', σ', vs, e1, e2, e3, e4, e5, e6⟩ := loadA_ok h hc
          rw [hloc] at e1
          simp only [Option.some.injEq, Prod.mk.injEq] at e1
          obtain ⟨rfl, rfl, rfl⟩ := e1
          simp only [hc] at hl
          split at hl
          · rename_i x hx
            simp only [Option.some.injEq] at hx hl
            subst hx hl
            cases e2 with
            | cons hx hr =>
              rename_i y r
              have hcell := e6 0 y rfl
              simp only [Addr.add_zero'] at hcell
              refine ⟨y, ?_, hx⟩
              simp [Instr.loadAt, Instr.sureAddr, loadVar, isAgg_run h2, hagg', hcell]
          · cases hl
    case glob g =>
      split at hl
      · cases hl
      · rename_i hagg
        have hagg' : (kindOf d).isAgg = false := by simpa using hagg
        obtain ⟨_, rv, e2, e3⟩ := h.glob hl
        exact ⟨rv, by simp [Instr.loadAt, Instr.sureAddr, loadVar, isAgg_run h2, hagg', e2], e3⟩

theorem load_ok (ok : TyOk E) (h : Rel E γ N H.bs.get w) (hF : FRel γ F a) {t : TypeId} {x : Operand} {r : R} (hr : loadX E F t x H = some r) :
    Does E γ N H w (asNext (Instr.loadAt t (a.eval x))) r := by
  unfold loadX at hr
  cases hx : opA F x with
  | none => simp [hx] at hr
  | some p =>
    simp only [hx] at hr
    obtain ⟨v, hv, rfl⟩ := vR_some hr
    obtain ⟨v', h1, h2⟩ := loadT_ok ok h hv (opA_ok hF hx)
    exact does_val h (run_asNext h1) h2

theorem store_ok (ok : TyOk E) (h : Rel E γ N H.bs.get w) (hF : FRel γ F a) {t : TypeId} {x y : Operand} {r : R} (hr : storeX E F t x y H = some r) :
    Does E γ N H w (do Instr.storeAt t (a.eval x) (a.eval y); pure Next.skip) r := by
  unfold storeX at hr
  cases hx : opA F x with
  | none => simp [hx] at hr
  | some p =>
    cases p <;> simp only [hx] at hr <;> try (cases hr; done)
    rename_i b off
    cases hy : opA F y with
    | none => simp [hy] at hr
    | some v =>
      cases ht : E.ty.get t with
      | none => simp [hy, ht] at hr
      | some i =>
        obtain ⟨info, d, h1, h2, rfl⟩ := tiOf_ok (ok.ty ht)
        simp only [hy, ht] at hr
        split at hr
        · rename_i hsz
          cases hs : storeA H b off v.cells with
          | none => simp [hs] at hr
          | some H' =>
            simp only [hs, Option.some.injEq] at hr
            subst hr
            have hp := opA_ok hF hx
            have hv := opA_ok hF hy
            generalize a.eval x = xv at hp
            generalize a.eval y = yv at hv
            cases hp with
            | ptr hloc =>
              rename_i β ω σ
              have hall : v.cells.all okc = true := by
                unfold storeA at hs
                split at hs
                · split at hs
                  · rename_i hc
                    simp only [Bool.and_eq_true, decide_eq_true_eq] at hc
                    exact hc.2
                  · cases hs
                · cases hs
              have hcells := hv.cells (.inl hall)
              obtain ⟨β', ω', σ', e1, e2, e3, e4, e5, e6, e7⟩ := storeA_ok h hs hcells
              rw [hloc] at e1
              simp only [Option.some.injEq, Prod.mk.injEq] at e1
              obtain ⟨rfl, rfl, rfl⟩ := e1
              have hrun := run_storeCells_cells (P := E.P) β (ω + off) yv.cells.toList 0 w (fun j hj => (e5 j hj).1) (fun j hj => (e5 j hj).2) e4
              refine ⟨_, γ, ?_, e6, e7⟩
              have hlen := hcells.length
              have : yv.cells.size = info.size := by rw [← hsz, hlen]; simp
              simp [Instr.storeAt, Instr.sureAddr, storeVar, sizeOf, typeInfo, h1, this, hrun]
        · cases hr

theorem nilCheck_ok (h : Rel E γ N H.bs.get w) (hF : FRel γ F a) {x : Operand} {r : R} (hr : nilCheckX F x H = some r) {o : Oper} (ho : o.op = .nilCheck x) : Does E γ N H w (execOp a.eval o) r := by
  unfold nilCheckX at hr
  cases hx : opA F x with
  | none => simp [hx] at hr
  | some v =>
    simp only [hx] at hr
    have hv := opA_ok hF hx
    generalize hxv : a.eval x = xv at hv
    cases hv <;> simp at hr <;> subst hr
    · rename_i hl; exact does_val h (by simp [execOp, ho, hxv]) (.ptr hl)
    · rename_i h1 h2; exact does_val h (by simp [execOp, ho, hxv]) (.func h1 h2)
    · rename_i h1; exact does_val h (by simp [execOp, ho, hxv]) (.iface h1)
    · exact does_val h (by simp [execOp, ho, hxv]) (.glob _)

theorem iface_ok (ok : TyOk E) (h : Rel E γ N H.bs.get w) (hF : FRel γ F a) {t : TypeId} {x : Operand} {r : R} (hr : ifaceX E F t x H = some r) : Does E γ N H w (asNext (Instr.makeInterface t (a.eval x))) r := by
  unfold ifaceX at hr
  cases hx : opA F x with
  | none => simp [hx] at hr
  | some v =>
    cases ht : E.ty.get t with
    | none => simp [hx, ht] at hr
    | some i =>
      obtain ⟨info, d, h1, h2, rfl⟩ := tiOf_ok (ok.ty ht)
      simp only [hx, ht] at hr
      have hv := opA_ok hF hx
      cases d <;> simp [kindOf] at hr <;> subst hr <;> exact does_val h (run_asNext (by simp [Instr.makeInterface, run_underlying h2])) (.iface hv)

theorem func_ok (h : Rel E γ N H.bs.get w) (hF : FRel γ F a) {f : FuncId} {x y : Array Operand} {r : R} (hr : funcX F f x.toList y.toList H = some r) : Does E γ N H w (asNext (Instr.makeFunc (.func f) (x.map a.eval) (y.map a.eval))) r := by
  unfold funcX at hr
  cases hx : opsA F x.toList with
  | none => simp [hx] at hr
  | some u =>
    cases hy : opsA F y.toList with
    | none => simp [hx, hy] at hr
    | some v =>
      simp [hx, hy] at hr
      subst hr
      exact does_val h (run_asNext (v := .func (.func f) (x.map a.eval) (y.map a.eval)) (by simp [Instr.makeFunc])) (.func (by simpa using opsA_ok hF hx) (by simpa using opsA_ok hF hy))

theorem extract_ok (h : Rel E γ N H.bs.get w) (hF : FRel γ F a) {x : Operand} {j : Nat} {r : R} (hr : extractX F x j H = some r) : Does E γ N H w (asNext (Instr.extract (a.eval x) j)) r := by
  unfold extractX at hr
  cases hx : opA F x with
  | none => simp [hx] at hr
  | some u =>
    cases u <;> simp only [hx] at hr <;> try (cases hr; done)
    rename_i l
    obtain ⟨v, hv, rfl⟩ := vR_some hr
    have hp := opA_ok hF hx
    generalize a.eval x = xv at hp
    cases hp with
    | tup hl =>
      rename_i l'
      obtain ⟨y, h1, h2⟩ := hl.get j hv
      have h1' : l'[j]? = some y := by simpa using h1
      exact does_val h (run_asNext (by simp [Instr.extract, h1'])) h2

theorem assert_ok (ok : TyOk E) (h : Rel E γ N H.bs.get w) (hF : FRel γ F a) {x : Operand} {xt t : TypeId} {b : Bool} {r : R} (hr : assertX E F x t b H = some r) : Does E γ N H w (asNext (Instr.typeAssert (a.eval x) xt t b)) r := by
  unfold assertX at hr
  cases hx : opA F x with
  | none => simp [hx] at hr
  | some u =>
    cases u <;> simp only [hx] at hr <;> try (cases hr; done)
    rename_i t' v
    cases ht : E.ty.get t with
    | none => simp [ht] at hr
    | some i =>
      obtain ⟨info, d, h1, h2, rfl⟩ := tiOf_ok (ok.ty ht)
      simp only [ht] at hr
      have hp := opA_ok hF hx
      generalize a.eval x = xv at hp
      cases hp with
      | iface hv =>
        rename_i v'
        have key : t' = t ∧ ∀ m, d ≠ .interface m := by
          cases d <;> simp [kindOf] at hr <;> exact ⟨hr.1, by simp⟩
        obtain ⟨rfl, hd⟩ := key
        cases b
        · have hr' : r = .val v H := by cases d <;> simp [kindOf] at hr <;> exact hr.symm
          subst hr'
          exact does_val h (run_asNext (v := v') (by cases d <;> first | exact absurd rfl (hd _) | simp [Instr.typeAssert, run_underlying h2])) hv
        · have hr' : r = .val (.tup [v, .bool true]) H := by cases d <;> simp [kindOf] at hr <;> exact hr.symm
          subst hr'
          exact does_val h (run_asNext (v := .tuple #[v', .bool true]) (by cases d <;> first | exact absurd rfl (hd _) | simp [Instr.typeAssert, run_underlying h2])) (.tup (.cons hv (.cons (.bool _) .nil)))
end
end Go.Proofs.YtfcfliclmjikkaaGreatDoor.Ex
