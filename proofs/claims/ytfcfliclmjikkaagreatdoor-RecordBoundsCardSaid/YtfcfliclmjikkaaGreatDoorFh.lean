/- A law by cases: what is known of its arguments, and what the fast twin says of each case. -/
import Derived.Test.YtfcfliclmjikkaaGreatDoorFg
import Derived.Test.YtfcfliclmjikkaaGreatDoorEyd
namespace Go.Proofs.YtfcfliclmjikkaaGreatDoor.Ex
open Go
set_option linter.unusedVariables false
set_option linter.unusedSimpArgs false

/-- What is known of an argument: a number a * q + c (q between the bounds of its place); a truth; one cell. -/
inductive Ar where
  | num (k : IntKind) (a c : Int)
  | tru (b : Bool)
  | any
def Ar.av (j : Nat) : Ar → AV
  | .num k a c => if a = 0 then .int k c else .lin k j a c
  | .tru b => .bool b
  | .any => .opq j
def avsOf : Nat → List Ar → List AV
  | _, [] => []
  | j, x :: l => x.av j :: avsOf (j + 1) l
def Ar.ok (x : Ar) (b : Int × Int) (q : Int) (v : Value) : Prop := (b.1 ≤ q ∧ q ≤ b.2) ∧ match x with
  | .num k a c => v = .int k (a * q + c)
  | .tru b => v = .bool b
  | .any => v.oneCell' = true
inductive ArsOk : List (Int × Int) → List Ar → List Int → List Value → Prop
  | nil : ArsOk [] [] [] []
  | cons {b : Int × Int} {x : Ar} {q : Int} {v : Value} {bs : List (Int × Int)} {l : List Ar} {qs : List Int} {vs : List Value} : x.ok b q v → ArsOk bs l qs vs → ArsOk (b :: bs) (x :: l) (q :: qs) (v :: vs)
theorem avsOf_ok {γ : Cx} : ∀ {bs : List (Int × Int)} {l : List Ar} {qs : List Int} {vs : List Value}, ArsOk bs l qs vs → ∀ (j : Nat), (∀ i, γ.sym (j + i) = qs.getD i 0) → (∀ i v, vs[i]? = some v → γ.opq (j + i) = v) → VRs γ (avsOf j l) vs
  | _, _, _, _, .nil, j, h1, h2 => .nil
  | _, _, _, _, .cons (x := x) (q := q) (v := v) (l := l) (qs := qs) (vs := vs) hx hl, j, h1, h2 => by
    have ih := avsOf_ok hl (j + 1) (fun i => by have := h1 (i + 1); rw [show j + 1 + i = j + (i + 1) by omega, this]; rfl) (fun i v' hv => by have := h2 (i + 1) v' hv; rwa [show j + 1 + i = j + (i + 1) by omega])
    refine .cons ?_ ih
    cases x with
    | num k a c =>
      obtain ⟨_, hx⟩ := hx
      have hx : v = .int k (a * q + c) := hx
      subst hx
      have hs : γ.sym j = q := by have := h1 0; simpa using this
      unfold Ar.av
      simp only
      split
      · rename_i ha
        subst ha
        rw [Int.zero_mul, Int.zero_add]
        exact .int _ _
      · rw [← hs]
        exact .lin _ _ _ _
    | tru b =>
      have : v = .bool b := hx.2
      subst this
      exact .bool b
    | any =>
      have hs : γ.opq j = v := h2 0 v rfl
      have : VR γ (.opq j) (γ.opq j) := .opq j (by rw [hs]; exact hx.2)
      rw [hs] at this
      exact this
theorem argBounds_ok : ∀ {bs : List (Int × Int)} {l : List Ar} {qs : List Int} {vs : List Value}, ArsOk bs l qs vs → ∀ (i : Nat) (lo hi : Int), bs[i]? = some (lo, hi) → lo ≤ qs.getD i 0 ∧ qs.getD i 0 ≤ hi
  | _, _, _, _, .nil, i, lo, hi, h => by simp at h
  | _, _, _, _, .cons (x := x) (q := q) (v := v) (l := l) (qs := qs) (vs := vs) hx hl, i, lo, hi, h => by
    cases i with
    | zero =>
      simp only [List.getElem?_cons_zero, Option.some.injEq] at h
      subst h
      exact hx.1
    | succ i =>
      simp only [List.getElem?_cons_succ] at h
      exact argBounds_ok hl i lo hi h

/-- A program, with who answers for what has no body. -/
structure Known (P : Program) (ib cs : FuncId) : Prop where
  byteFn : ByteFn P ib
  countFn : CountFn P cs
  noByte : (mkFns 0 P.funcs.toList .nil).get ib = none
  noCount : (mkFns 0 P.funcs.toList .nil).get cs = none
  mixed : P.follows .mixedOrders = true
noncomputable def caseEnv (P : Program) (ib cs : FuncId) (globs : Tr AV) (bs : List (Int × Int)) : Env := envOf P (Tr.nil.put 0 bs) globs (hookY ib cs)
/-- What the fast twin says of a case. -/
noncomputable def caseOk (P : Program) (ib cs f : FuncId) (globs : Tr AV) (bs : List (Int × Int)) (ars : List Ar) : Bool := fastB (mkTys P 0 P.types.size .nil) (mkFns 0 P.funcs.toList .nil) (caseEnv P ib cs globs bs) 100000 300 f (avsOf 0 ars)
theorem case_law {P : Program} {ib cs f : FuncId} {fn : Func} (hP : Known P ib cs) (hf : P.funcs[f]? = some fn) (hb : fn.body.isSome = true) (hnm : (fn.name == "runtime.NumGoroutine") = false)
    {globs : Tr AV} {bs : List (Int × Int)} {ars : List Ar} (h : caseOk P ib cs f globs bs ars = true) {qs : List Int} {vs : List Value} (ha : ArsOk bs ars qs vs) {w : World} {op : Nat → Value} (hop : ∀ i v, vs[i]? = some v → op i = v)
    (hglob : ∀ {g : Nat} {v : AV}, globs.get g = some v → g < w.heap.size ∧ ∃ rv, w.cell? ⟨g, 0, none⟩ = some rv ∧ VR ⟨fun _ => none, fun i => qs.getD i 0, op⟩ v rv) :
    Calls P f vs.toArray w fun e w' => e = .returned (.bool true) ∧ RowKit.Below w.heap.size w w' := by
  refine fast_law (E := caseEnv P ib cs globs bs) (envOf_ty _ _ _ _) (envOf_fn _ _ _ _) (hookY_ok (ib := ib) (cs := cs) rfl hP.byteFn hP.countFn) (hookY_num (ib := ib) (cs := cs) rfl) (fun {f i} hf args H => ?_) hP.mixed hf hb hnm h
    (γ := ⟨fun _ => none, fun i => qs.getD i 0, op⟩) (fun _ => rfl) (fun {i lo hi} hi' => ?_) (avsOf_ok ha 0 (fun i => by rw [Nat.zero_add]) (fun i v hv => by rw [Nat.zero_add]; exact hop i v hv)) hglob
  · show hookY ib cs f args H = none
    have hf : (mkFns 0 P.funcs.toList .nil).get f = some i := hf
    unfold hookY
    split
    · rename_i hq
      rw [Nat.eq_of_beq_eq_true hq, hP.noCount] at hf
      cases hf
    · exact hookX_fn (E := caseEnv P ib cs globs bs |> fun E => { E with hook := hookX ib }) (ib := ib) rfl hP.noByte hf args H
  · have hi' : ((Tr.nil : Tr (Int × Int)).put 0 bs).get i = some (lo, hi) := hi'
    rw [Tr.get_put] at hi'
    split at hi'
    · exact argBounds_ok ha i lo hi (by simpa using hi')
    · rw [Tr.get_nil] at hi'; cases hi'
end Go.Proofs.YtfcfliclmjikkaaGreatDoor.Ex
