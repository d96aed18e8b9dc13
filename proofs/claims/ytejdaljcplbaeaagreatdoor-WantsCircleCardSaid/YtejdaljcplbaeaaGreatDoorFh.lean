/- A law by cases: what is known of its arguments, and what the fast twin says of each case. -/
import Derived.Test.YtejdaljcplbaeaaGreatDoorFg
import Derived.Test.YtejdaljcplbaeaaGreatDoorEyd
namespace Go.Proofs.YtejdaljcplbaeaaGreatDoor.Ex
open Go
set_option linter.unusedVariables false
set_option linter.unusedSimpArgs false

/-- What is known of an argument: a number a * q + c with q between bounds; a truth; one cell. -/
inductive Ar where
  | num (k : IntKind) (a c lo hi : Int)
  | tru (b : Bool)
  | any
def Ar.av (j : Nat) : Ar → AV
  | .num k a c _ _ => if a = 0 then .int k c else .lin k j a c
  | .tru b => .bool b
  | .any => .opq j
def avsOf : Nat → List Ar → List AV
  | _, [] => []
  | j, x :: l => x.av j :: avsOf (j + 1) l
def symsOf : Nat → List Ar → Tr (Int × Int)
  | _, [] => .nil
  | j, x :: l => match x with
    | .num _ _ _ lo hi => (symsOf (j + 1) l).set j (lo, hi)
    | _ => symsOf (j + 1) l
def Ar.ok (x : Ar) (q : Int) (v : Value) : Prop := match x with
  | .num k a c lo hi => lo ≤ q ∧ q ≤ hi ∧ v = .int k (a * q + c)
  | .tru b => v = .bool b
  | .any => v.oneCell' = true
inductive ArsOk : List Ar → List Int → List Value → Prop
  | nil : ArsOk [] [] []
  | cons {x : Ar} {q : Int} {v : Value} {l : List Ar} {qs : List Int} {vs : List Value} : x.ok q v → ArsOk l qs vs → ArsOk (x :: l) (q :: qs) (v :: vs)
theorem avsOf_ok {γ : Cx} : ∀ {l : List Ar} {qs : List Int} {vs : List Value}, ArsOk l qs vs → ∀ (j : Nat), (∀ i, γ.sym (j + i) = qs.getD i 0) → (∀ i v, vs[i]? = some v → γ.opq (j + i) = v) → VRs γ (avsOf j l) vs
  | _, _, _, .nil, j, h1, h2 => .nil
  | _, _, _, .cons (x := x) (q := q) (v := v) (l := l) (qs := qs) (vs := vs) hx hl, j, h1, h2 => by
    have ih := avsOf_ok hl (j + 1) (fun i => by have := h1 (i + 1); rw [show j + 1 + i = j + (i + 1) by omega, this]; rfl) (fun i v' hv => by have := h2 (i + 1) v' hv; rwa [show j + 1 + i = j + (i + 1) by omega])
    refine .cons ?_ ih
    cases x with
    | num k a c lo hi =>
      obtain ⟨_, _, rfl⟩ := hx
      have hs : γ.sym j = q := by have := h1 0; simpa using this
      unfold Ar.av
      simp only
      split
      · rename_i ha
        subst ha
        rw [Int.zero_mul, Int.zero_add]
        exact .int _ _
      · rw [← hs]
        exact .lin _ _ _ _
    | tru b =>
      have : v = .bool b := hx
      subst this
      exact .bool b
    | any =>
      have hs : γ.opq j = v := h2 0 v rfl
      have : VR γ (.opq j) (γ.opq j) := .opq j (by rw [hs]; exact hx)
      rw [hs] at this
      exact this
theorem symsOf_ok : ∀ {l : List Ar} {qs : List Int} {vs : List Value}, ArsOk l qs vs → ∀ (j i : Nat) (lo hi : Int), (symsOf j l).get i = some (lo, hi) → j ≤ i ∧ lo ≤ qs.getD (i - j) 0 ∧ qs.getD (i - j) 0 ≤ hi
  | _, _, _, .nil, j, i, lo, hi, h => by rw [symsOf, Tr.get_nil] at h; cases h
  | _, _, _, .cons (x := x) (q := q) (v := v) (l := l) (qs := qs) (vs := vs) hx hl, j, i, lo, hi, h => by
    have tail : (symsOf (j + 1) l).get i = some (lo, hi) → j ≤ i ∧ lo ≤ (q :: qs).getD (i - j) 0 ∧ (q :: qs).getD (i - j) 0 ≤ hi := fun h => by
      obtain ⟨h1, h2, h3⟩ := symsOf_ok hl (j + 1) i lo hi h
      have e : i - j = (i - (j + 1)) + 1 := by omega
      rw [e]
      exact ⟨by omega, h2, h3⟩
    cases x with
    | num k a c lo' hi' =>
      simp only [symsOf] at h
      rw [Tr.get_set] at h
      split at h
      · rename_i e
        subst e
        simp only [Option.some.injEq, Prod.mk.injEq] at h
        obtain ⟨rfl, rfl⟩ := h
        obtain ⟨h1, h2, _⟩ := hx
        rw [Nat.sub_self]
        exact ⟨Nat.le_refl _, h1, h2⟩
      · exact tail h
    | tru b => exact tail h
    | any => exact tail h

/-- A program, with who answers for what has no body. -/
structure Known (P : Program) (ib cs : FuncId) : Prop where
  byteFn : ByteFn P ib
  countFn : CountFn P cs
  noByte : (mkFns 0 P.funcs.toList .nil).get ib = none
  noCount : (mkFns 0 P.funcs.toList .nil).get cs = none
  mixed : P.follows .mixedOrders = true
noncomputable def caseEnv (P : Program) (ib cs : FuncId) (globs : Tr AV) (ars : List Ar) : Env := envOf P (symsOf 0 ars) globs (hookY ib cs)
/-- What the fast twin says of a case. -/
noncomputable def caseOk (P : Program) (ib cs f : FuncId) (globs : Tr AV) (ars : List Ar) : Bool := fastB (mkTys P 0 P.types.size .nil) (mkFns 0 P.funcs.toList .nil) (caseEnv P ib cs globs ars) 100000 300 f (avsOf 0 ars)
theorem case_law {P : Program} {ib cs f : FuncId} {fn : Func} (hP : Known P ib cs) (hf : P.funcs[f]? = some fn) (hb : fn.body.isSome = true) (hnm : (fn.name == "runtime.NumGoroutine") = false)
    {globs : Tr AV} {ars : List Ar} (h : caseOk P ib cs f globs ars = true) {qs : List Int} {vs : List Value} (ha : ArsOk ars qs vs) {w : World} {op : Nat → Value} (hop : ∀ i v, vs[i]? = some v → op i = v)
    (hglob : ∀ {g : Nat} {v : AV}, globs.get g = some v → g < w.heap.size ∧ ∃ rv, w.cell? ⟨g, 0, none⟩ = some rv ∧ VR ⟨fun _ => none, fun i => qs.getD i 0, op⟩ v rv) :
    Calls P f vs.toArray w fun e w' => e = .returned (.bool true) ∧ RowKit.Below w.heap.size w w' := by
  refine fast_law (E := caseEnv P ib cs globs ars) (envOf_ty _ _ _ _) (envOf_fn _ _ _ _) (hookY_ok (ib := ib) (cs := cs) rfl hP.byteFn hP.countFn) (hookY_num (ib := ib) (cs := cs) rfl) (fun {f i} hf args H => ?_) hP.mixed hf hb hnm h
    (γ := ⟨fun _ => none, fun i => qs.getD i 0, op⟩) (fun _ => rfl) (fun {i lo hi} hi' => ?_) (avsOf_ok ha 0 (fun i => by rw [Nat.zero_add]) (fun i v hv => by rw [Nat.zero_add]; exact hop i v hv)) hglob
  · show hookY ib cs f args H = none
    have hf : (mkFns 0 P.funcs.toList .nil).get f = some i := hf
    unfold hookY
    split
    · rename_i hq
      rw [Nat.eq_of_beq_eq_true hq, hP.noCount] at hf
      cases hf
    · exact hookX_fn (E := caseEnv P ib cs globs ars |> fun E => { E with hook := hookX ib }) (ib := ib) rfl hP.noByte hf args H
  · have := (symsOf_ok ha 0 i lo hi hi').2
    simpa using this
end Go.Proofs.YtejdaljcplbaeaaGreatDoor.Ex
