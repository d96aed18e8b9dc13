/- The plain runner: its tables are the program's; a body-less function of Go's; what a run says of the machine. -/
import Derived.Test.YtfcfliclmjikkaaGreatDoorEya
import Derived.Below
import Derived.Laws.Externs
namespace Go.Proofs.YtfcfliclmjikkaaGreatDoor.Ex
open Go
set_option linter.unusedVariables false
set_option linter.unusedSimpArgs false

theorem mkTys_ok {P : Program} : ∀ (n i : Nat) (t : Tr TI), (∀ {j x}, t.get j = some x → tiOf P j = some x) → ∀ {j x}, (mkTys P i n t).get j = some x → tiOf P j = some x
  | 0, i, t, h, j, x, hx => h hx
  | n + 1, i, t, h, j, x, hx => by
    simp only [mkTys] at hx
    refine mkTys_ok n (i + 1) _ (fun {j x} e => ?_) hx
    split at e
    · rename_i y hy
      rw [Tr.get_set] at e
      split at e
      · rename_i q; subst q; rw [hy]; exact e
      · exact h e
    · exact h e
theorem mkFns_ok : ∀ (l : List Func) (i : Nat) (t : Tr FI) (R : Nat → FI → Prop), (∀ {j x}, t.get j = some x → R j x) →
    (∀ k f c, l[k]? = some f → f.body = some c → f.name ≠ "runtime.NumGoroutine" → R (i + k) ⟨f.ntmps, f.results.toList, c⟩) → ∀ {j x}, (mkFns i l t).get j = some x → R j x
  | [], i, t, R, h, hr, j, x, hx => h hx
  | f :: l, i, t, R, h, hr, j, x, hx => by
    simp only [mkFns] at hx
    refine mkFns_ok l (i + 1) _ R (fun {j x} e => ?_) (fun k f' c a b d => ?_) hx
    · split at e
      · rename_i c hc
        split at e
        · exact h e
        · rename_i hn
          rw [Tr.get_set] at e
          split at e
          · rename_i q
            simp only [Option.some.injEq] at e
            subst q e
            exact hr 0 f c rfl hc (by simpa using hn)
          · exact h e
      · exact h e
    · have := hr (k + 1) f' c (by simpa using a) b d
      rwa [show i + 1 + k = i + (k + 1) by omega]

/-- A runner over a program. -/
def envOf (P : Program) (syms : Tr (Int × Int)) (globs : Tr AV) (hook : FuncId → List AV → AH → Option (AV × AH)) : Env :=
  { P, ty := mkTys P 0 P.types.size .nil, fn := mkFns 0 P.funcs.toList .nil, syms, globs, hook }
theorem envOf_ty (P : Program) (syms : Tr (Int × Int)) (globs : Tr AV) (hook : FuncId → List AV → AH → Option (AV × AH)) : TyOk (envOf P syms globs hook) :=
  ⟨fun {t i} h => mkTys_ok _ _ _ (fun e => (by rw [Tr.get_nil] at e; cases e)) h⟩
theorem envOf_fn (P : Program) (syms : Tr (Int × Int)) (globs : Tr AV) (hook : FuncId → List AV → AH → Option (AV × AH)) : FnOk (envOf P syms globs hook) :=
  ⟨fun {f i} h => mkFns_ok P.funcs.toList 0 .nil (fun f i => ∃ fn, P.funcs[f]? = some fn ∧ fn.body = some i.body ∧ fn.ntmps = i.ntmps ∧ fn.results.toList = i.results ∧ fn.name ≠ "runtime.NumGoroutine") (fun e => (by rw [Tr.get_nil] at e; cases e))
    (fun k f c a b d => ⟨f, by simpa using a, b, rfl, rfl, d⟩) h, fun g h => (by cases h)⟩
/-- The same, where some functions are quiet. -/
def envQ (P : Program) (syms : Tr (Int × Int)) (globs : Tr AV) (hook : FuncId → List AV → AH → Option (AV × AH)) (quiet : FuncId → Bool) : Env := { envOf P syms globs hook with quiet := quiet }
theorem envQ_ty (P : Program) (syms : Tr (Int × Int)) (globs : Tr AV) (hook : FuncId → List AV → AH → Option (AV × AH)) (quiet : FuncId → Bool) : TyOk (envQ P syms globs hook quiet) :=
  ⟨fun {t i} h => (envOf_ty P syms globs hook).ty h⟩
theorem envQ_fn (P : Program) (syms : Tr (Int × Int)) (globs : Tr AV) (hook : FuncId → List AV → AH → Option (AV × AH)) {quiet : FuncId → Bool} (hq : ∀ g, quiet g = true → QuietFn P g) : FnOk (envQ P syms globs hook quiet) :=
  ⟨fun {f i} h => (envOf_fn P syms globs hook).fn h, hq⟩

/-! ### internal/bytealg.IndexByteString -/
def firstA (c : Nat) : Nat → List UInt8 → Int
  | _, [] => -1
  | i, x :: l => match Nat.beq x.toNat c with
    | true => .ofNat i
    | false => firstA c (i + 1) l
theorem find_range (p : Nat → Bool) : ∀ (n i : Nat), ((List.range' i n).find? p) = match (List.range n).find? (fun j => p (i + j)) with
    | some j => some (i + j)
    | none => none
  | 0, i => rfl
  | n + 1, i => by
    rw [List.range'_succ, List.range_succ_eq_map, List.find?_cons, List.find?_cons]
    simp only [Nat.add_zero]
    cases p i with
    | true => rfl
    | false =>
      simp only
      rw [find_range p n (i + 1), List.find?_map]
      have : ((fun j => p (i + j)) ∘ Nat.succ) = fun j => p (i + 1 + j) := by
        funext j
        simp only [Function.comp, Nat.succ_eq_add_one]
        congr 1
        omega
      rw [this]
      cases (List.range n).find? (fun j => p (i + 1 + j)) with
      | none => rfl
      | some j => simp only [Option.map_some, Nat.succ_eq_add_one]; congr 1; omega
theorem firstA_ok (c : Nat) : ∀ (l : List UInt8) (i : Nat), firstA c i l = match (List.range l.length).find? (fun j => (l.getD j 0).toNat == c) with
    | some j => ((i + j : Nat) : Int)
    | none => -1
  | [], i => rfl
  | x :: l, i => by
    rw [List.length_cons, List.range_succ_eq_map, List.find?_cons]
    simp only [firstA, List.getD_cons_zero, Nat.add_zero]
    have hb : (x.toNat == c) = Nat.beq x.toNat c := by
      rw [Bool.eq_iff_iff, beq_iff_eq]
      exact ⟨fun e => by rw [e]; exact Nat.beq_refl c, Nat.eq_of_beq_eq_true⟩
    rw [hb]
    cases Nat.beq x.toNat c with
    | true => rfl
    | false =>
      simp only
      rw [firstA_ok c l (i + 1), List.find?_map]
      have : ((fun j => ((x :: l).getD j 0).toNat == c) ∘ Nat.succ) = fun j => (l.getD j 0).toNat == c := by
        funext j
        simp [Function.comp]
      rw [this]
      cases (List.range l.length).find? (fun j => (l.getD j 0).toNat == c) with
      | none => rfl
      | some j => simp only [Option.map_some, Nat.succ_eq_add_one]; congr 1; omega
theorem first_ok (l : List UInt8) (c : Int) (h0 : 0 ≤ c) (h1 : c ≤ 255) : firstIdx ⟨l.toArray⟩ c.toNat.toUInt8 = firstA c.toNat 0 l := by
  rw [firstA_ok]
  unfold firstIdx
  have hs : (⟨l.toArray⟩ : ByteArray).size = l.length := rfl
  rw [hs]
  have : (fun i => (⟨l.toArray⟩ : ByteArray)[i]! == c.toNat.toUInt8) = fun j => (l.getD j 0).toNat == c.toNat := by
    funext j
    have e1 : (⟨l.toArray⟩ : ByteArray)[j]! = l.getD j 0 := by
      by_cases hj : j < l.length
      · rw [getElem!_pos (⟨l.toArray⟩ : ByteArray) j hj, List.getD_eq_getElem?_getD, List.getElem?_eq_getElem hj]
        rfl
      · rw [getElem!_neg (⟨l.toArray⟩ : ByteArray) j hj, List.getD_eq_getElem?_getD, List.getElem?_eq_none (by omega)]
        rfl
    rw [e1]
    have hc : c.toNat < 256 := by omega
    have e2 : c.toNat.toUInt8.toNat = c.toNat := by simp; omega
    cases hq : (l.getD j 0).toNat == c.toNat with
    | true =>
      have : (l.getD j 0).toNat = c.toNat := by simpa using hq
      have : l.getD j 0 = c.toNat.toUInt8 := UInt8.toNat_inj.1 (by rw [e2]; exact this)
      rw [this]; simp
    | false =>
      have hne : (l.getD j 0).toNat ≠ c.toNat := by simpa using hq
      simp only [beq_eq_false_iff_ne, ne_eq]
      intro e
      apply hne
      rw [e, e2]
  rw [this]
  cases (List.range l.length).find? (fun j => (l.getD j 0).toNat == c.toNat) with
  | none => rfl
  | some j => simp

/-- What answers for Go's body-less functions. -/
def hookX (ib : FuncId) : FuncId → List AV → AH → Option (AV × AH) := fun f args H =>
  match Nat.beq f ib with
  | true => match args with
    | [.str s, .int .u8 (.ofNat c)] => if c ≤ 255 then some (.int .i64 (firstA c 0 s), H) else none
    | _ => none
  | false => none
structure ByteFn (P : Program) (ib : FuncId) : Prop where
  fn : ∃ fn, P.funcs[ib]? = some fn ∧ (fn.name == "runtime.NumGoroutine") = false ∧ fn.body.isNone = true ∧ Extern.findNext fn = none ∧ Extern.find fn = some Extern.BytealgIndexByte.indexByte
theorem hookX_num {E : Env} {ib : FuncId} (h : E.hook = hookX ib) : HookNum E := fun {f as H H' v} e => by
  rw [h] at e
  unfold hookX at e
  split at e
  · split at e
    · split at e
      · simp only [Option.some.injEq, Prod.mk.injEq] at e; rw [e.2]; exact Nat.le_refl _
      · cases e
    · cases e
  · cases e
theorem hookX_ok {E : Env} {ib : FuncId} (h : E.hook = hookX ib) (hb : ByteFn E.P ib) : HookOk E := fun {f as H H' v} e {γ N w as'} hrel hN hargs hf => by
  rw [h] at e
  unfold hookX at e
  split at e
  · rename_i hq
    have hq := Nat.eq_of_beq_eq_true hq
    subst hq
    split at e
    · rename_i s c
      split at e
      · rename_i hc
        simp only [Option.some.injEq, Prod.mk.injEq] at e
        obtain ⟨rfl, rfl⟩ := e
        cases hargs with
        | cons h1 h2 =>
          cases h2 with
          | cons h2 h3 =>
            cases h3
            cases h1
            cases h2
            obtain ⟨fn, f1, f2, f3, f4, f5⟩ := hb.fn
            unfold CallWp
            have : (callFunc f [Value.string ⟨s.toArray⟩, .int .u8 (Int.ofNat c)].toArray).run E.P w = .ok (.value (.int .i64 (firstA c 0 s))) w := by
              rw [run_callFunc_extern f1 f2 f3 f4 f5]
              have := run_indexByte_string (P := E.P) ⟨s.toArray⟩ (Int.ofNat c) w
              have e3 : [Value.string ⟨s.toArray⟩, .int .u8 (Int.ofNat c)].toArray = #[Value.string ⟨s.toArray⟩, .int .u8 (Int.ofNat c)] := rfl
              rw [e3, this]
              simp only [Result.andThen]
              rw [first_ok s (Int.ofNat c) (by simp) (by simp; omega)]
              rfl
            rw [this]
            exact ⟨γ, .int _ _, hrel, .refl _ _ _ _⟩
      · cases e
    · cases e
  · cases e

/-! ### What a run says -/
/-- A run from nothing: the call's end. -/
theorem run_law {E : Env} (ok : TyOk E) (fok : FnOk E) (hk : HookOk E) (hkn : HookNum E) (hm : E.P.follows .mixedOrders = true) {L n : Nat} {f : FuncId} {args : List AV} {H' : AH} {v : AV} (h : exF E L n f args ⟨0, .nil⟩ = some (v, H'))
    {γ : Cx} (hγ : ∀ i, γ.loc i = none) (hsym : ∀ {i : Nat} {lo hi : Int}, E.syms.get i = some (lo, hi) → lo ≤ γ.sym i ∧ γ.sym i ≤ hi) {args' : List Value} (hargs : VRs γ args args') {w : World}
    (hglob : ∀ {g : Nat} {v : AV}, E.globs.get g = some v → g < w.heap.size ∧ ∃ rv, w.cell? ⟨g, 0, none⟩ = some rv ∧ VR γ v rv) :
    CallWp E.P f args' w fun v' w' => (∃ γ', VR γ' v v') ∧ RowKit.Below w.heap.size w w' := by
  have hrel : Rel E γ w.heap.size (Tr.nil : Tr Blk).get w := ⟨fun {id k} hk => (by rw [Tr.get_nil] at hk; cases hk), fun {id l} hl => (by rw [hγ] at hl; cases hl), fun {i j k k' l l'} hk => (by rw [Tr.get_nil] at hk; cases hk), hglob, hsym⟩
  have hc := exF_ok (L := L) ok fok @hk @hkn (fun hcall hnum => draw_ok ok hm hcall hnum) n h hrel (Nat.le_refl _) hargs (fun id _ _ => hγ id)
  unfold CallWp at hc ⊢
  have key : ∀ {v' : Value} {w' : World}, (∃ γ', VR γ' v v' ∧ Rel E γ' w.heap.size H'.bs.get w' ∧ Nxt γ (Tr.nil : Tr Blk).get w 0 γ' H'.bs.get w' H'.n) → (∃ γ', VR γ' v v') ∧ RowKit.Below w.heap.size w w' := fun ⟨γ', a, b, c⟩ =>
    ⟨⟨γ', a⟩, ⟨c.still.os, c.still.tape, c.still.output, c.size, fun k hk => c.keep k hk (fun id k' l hk' => (by rw [Tr.get_nil] at hk'; cases hk'))⟩⟩
  split
  · rename_i v' w' he
    rw [he] at hc
    exact key hc
  · rename_i g as w' he
    rw [he] at hc
    refine Calls.mono hc ?_
    rintro e w'' ⟨v', rfl, q⟩
    exact ⟨v', rfl, key q⟩
  · rename_i hne1 hne2
    split at hc
    · rename_i he; exact absurd he (hne1 _ _)
    · rename_i he; exact absurd he (hne2 _ _ _)
    · exact hc
/-- A law that is true. -/
theorem law_true {E : Env} (ok : TyOk E) (fok : FnOk E) (hk : HookOk E) (hkn : HookNum E) (hm : E.P.follows .mixedOrders = true) {L n : Nat} {f : FuncId} {fn : Func} (hf : E.P.funcs[f]? = some fn) (hb : fn.body.isSome = true) (hnm : (fn.name == "runtime.NumGoroutine") = false) {args : List AV}
    (h : (match exF E L n f args ⟨0, .nil⟩ with
      | some (.bool b, _) => b
      | _ => false) = true)
    {γ : Cx} (hγ : ∀ i, γ.loc i = none) (hsym : ∀ {i : Nat} {lo hi : Int}, E.syms.get i = some (lo, hi) → lo ≤ γ.sym i ∧ γ.sym i ≤ hi) {args' : List Value} (hargs : VRs γ args args') {w : World}
    (hglob : ∀ {g : Nat} {v : AV}, E.globs.get g = some v → g < w.heap.size ∧ ∃ rv, w.cell? ⟨g, 0, none⟩ = some rv ∧ VR γ v rv) :
    Calls E.P f args'.toArray w fun e w' => e = .returned (.bool true) ∧ RowKit.Below w.heap.size w w' := by
  split at h
  · rename_i b H' he
    subst h
    have := run_law ok fok @hk @hkn hm he hγ hsym hargs hglob
    obtain ⟨c, hc⟩ := Option.isSome_iff_exists.1 hb
    unfold CallWp at this
    rw [callFunc_run hf hc (by simpa using hnm)] at this
    refine Calls.mono this ?_
    rintro e w' ⟨v', rfl, ⟨γ', hv⟩, hbel⟩
    cases hv
    exact ⟨rfl, hbel⟩
  · cases h
end Go.Proofs.YtfcfliclmjikkaaGreatDoor.Ex
