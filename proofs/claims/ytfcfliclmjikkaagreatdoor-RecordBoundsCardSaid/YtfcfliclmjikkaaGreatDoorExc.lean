/- What the plain runner's values and memory stand for in the machine's, and what each change of memory keeps. -/
import Derived.Test.YtfcfliclmjikkaaGreatDoorExb
import Derived.Deep.AppendSrc
import Derived.Laws.MakeOwn
import Derived.Laws.Tables
import Derived.Laws.IdiomCopy
import Derived.Laws.IdiomStrings
import Derived.Laws.BytesString
namespace Go.Proofs.YtfcfliclmjikkaaGreatDoor.Ex
open Go
set_option linter.unusedVariables false
set_option linter.unusedSimpArgs false

/-- What names stand for: a place in the machine's memory, an unknown number, an unknown value. -/
structure Cx where
  loc : Nat → Option (Nat × Nat × Nat)
  sym : Nat → Int
  opq : Nat → Value

mutual
inductive VR (γ : Cx) : AV → Value → Prop
  | int (k : IntKind) (n : Int) : VR γ (.int k n) (.int k n)
  | lin (k : IntKind) (i : Nat) (a c : Int) : VR γ (.lin k i a c) (.int k (a * γ.sym i + c))
  | bool (b : Bool) : VR γ (.bool b) (.bool b)
  | str (s : List UInt8) : VR γ (.str s) (.string ⟨s.toArray⟩)
  | ptr {b o β ω σ : Nat} : γ.loc b = some (β, ω, σ) → VR γ (.ptr b o) (.pointer (some ⟨β, ω + o, none⟩))
  | nilptr : VR γ .nilptr (.pointer none)
  | slice {b o len es : Nat} {full : Bool} {β ω σ cap : Nat} {A : Addr} : γ.loc b = some (β, ω, σ) → len ≤ cap → (full = true → cap = len) →
      (cap ≠ 0 → A = ⟨β, ω + o, none⟩) → ω + o + cap * es ≤ σ → VR γ (.slice b o len es full) (.slice (some A) len cap)
  | nilslice : VR γ .nilslice (.slice none 0 0)
  | func {f : FuncId} {a c : List AV} {a' c' : Array Value} : VRs γ a a'.toList → VRs γ c c'.toList → VR γ (.func f a c) (.func (.func f) a' c')
  | nilFunc : VR γ .nilFunc .nilFunc
  | iface {t : TypeId} {v : AV} {v' : Value} : VR γ v v' → VR γ (.iface t v) (.iface t v')
  | nilIface : VR γ .nilIface .nilIface
  | agg {l : List AV} {l' : Array Value} : VRs γ l l'.toList → VR γ (.agg l) (.agg l')
  | tup {l : List AV} {l' : Array Value} : VRs γ l l'.toList → VR γ (.tup l) (.tuple l')
  | glob (g : Nat) : VR γ (.glob g) (.pointer (some ⟨g, 0, none⟩))
  | opq (i : Nat) : (γ.opq i).oneCell' = true → VR γ (.opq i) (γ.opq i)
  | yld {y l ω σ : Nat} : γ.loc y = some (l, ω, σ) → VR γ (.yld y) (.func (.yield l) #[] #[])
inductive VRs (γ : Cx) : List AV → List Value → Prop
  | nil : VRs γ [] []
  | cons {v : AV} {v' : Value} {l : List AV} {l' : List Value} : VR γ v v' → VRs γ l l' → VRs γ (v :: l) (v' :: l')
end

/-- A later context: what was named stays. -/
structure Cx.Le (γ γ' : Cx) : Prop where
  loc : ∀ {b : Nat} {l : Nat × Nat × Nat}, γ.loc b = some l → γ'.loc b = some l
  sym : γ'.sym = γ.sym
  opq : γ'.opq = γ.opq
theorem Cx.Le.refl (γ : Cx) : γ.Le γ := ⟨fun h => h, rfl, rfl⟩
theorem Cx.Le.trans {γ γ' γ'' : Cx} (h : γ.Le γ') (h' : γ'.Le γ'') : γ.Le γ'' := ⟨fun e => h'.loc (h.loc e), h'.sym.trans h.sym, h'.opq.trans h.opq⟩

mutual
theorem VR.mono {γ γ' : Cx} (h : γ.Le γ') : ∀ {a : AV} {v : Value}, VR γ a v → VR γ' a v
  | _, _, .int k n => .int k n
  | _, _, .lin k i a c => by rw [← h.sym]; exact .lin k i a c
  | _, _, .bool b => .bool b
  | _, _, .str s => .str s
  | _, _, .ptr e => .ptr (h.loc e)
  | _, _, .nilptr => .nilptr
  | _, _, .slice e h1 h2 h3 h4 => .slice (h.loc e) h1 h2 h3 h4
  | _, _, .nilslice => .nilslice
  | _, _, .func x y => .func (VRs.mono h x) (VRs.mono h y)
  | _, _, .nilFunc => .nilFunc
  | _, _, .iface x => .iface (VR.mono h x)
  | _, _, .nilIface => .nilIface
  | _, _, .agg x => .agg (VRs.mono h x)
  | _, _, .tup x => .tup (VRs.mono h x)
  | _, _, .glob g => .glob g
  | _, _, .opq i e => by rw [← h.opq] at e ⊢; exact .opq i e
  | _, _, .yld e => .yld (h.loc e)
theorem VRs.mono {γ γ' : Cx} (h : γ.Le γ') : ∀ {a : List AV} {v : List Value}, VRs γ a v → VRs γ' a v
  | _, _, .nil => .nil
  | _, _, .cons x y => .cons (VR.mono h x) (VRs.mono h y)
end

theorem VRs.length {γ : Cx} : ∀ {a : List AV} {v : List Value}, VRs γ a v → a.length = v.length
  | _, _, .nil => rfl
  | _, _, .cons _ y => by simp [VRs.length y]
theorem VRs.get {γ : Cx} : ∀ {a : List AV} {v : List Value}, VRs γ a v → ∀ (i : Nat) {x : AV}, a[i]? = some x → ∃ y, v[i]? = some y ∧ VR γ x y
  | _, _, .nil, i, x, h => by simp at h
  | _, _, .cons x y, 0, _, h => by simp at h; subst h; exact ⟨_, rfl, x⟩
  | _, _, .cons x y, i + 1, _, h => by simp at h; simpa using VRs.get y i h
theorem VRs.append {γ : Cx} : ∀ {a : List AV} {v : List Value}, VRs γ a v → ∀ {b : List AV} {u : List Value}, VRs γ b u → VRs γ (a ++ b) (v ++ u)
  | _, _, .nil, _, _, h => h
  | _, _, .cons x y, _, _, h => .cons x (VRs.append y h)
theorem VRs.take {γ : Cx} : ∀ {a : List AV} {v : List Value}, VRs γ a v → ∀ n : Nat, VRs γ (a.take n) (v.take n)
  | _, _, .nil, n => by simp; exact .nil
  | _, _, .cons x y, 0 => .nil
  | _, _, .cons x y, n + 1 => .cons x (VRs.take y n)
theorem VRs.drop {γ : Cx} : ∀ {a : List AV} {v : List Value}, VRs γ a v → ∀ n : Nat, VRs γ (a.drop n) (v.drop n)
  | _, _, .nil, n => by simp; exact .nil
  | _, _, .cons x y, 0 => .cons x y
  | _, _, .cons x y, n + 1 => VRs.drop y n
theorem VRs.of_get {γ : Cx} : ∀ {a : List AV} {v : List Value}, a.length = v.length → (∀ (i : Nat) x y, a[i]? = some x → v[i]? = some y → VR γ x y) → VRs γ a v
  | [], [], _, _ => .nil
  | x :: l, y :: r, h, g => .cons (g 0 x y rfl rfl) (VRs.of_get (by simpa using h) (fun i a b ha hb => g (i + 1) a b (by simpa using ha) (by simpa using hb)))

theorem VR.oneCell {γ : Cx} {a : AV} {v : Value} (h : VR γ a v) (ha : okc a = true) : v.oneCell' = true := by
  cases h <;> first | rfl | assumption | (simp [okc] at ha; done)
theorem VRs.oneCell {γ : Cx} : ∀ {a : List AV} {v : List Value}, VRs γ a v → a.all okc = true → ∀ u ∈ v, u.oneCell' = true
  | _, _, .nil, _, u, hu => by simp at hu
  | _, _, .cons x y, ha, u, hu => by
    simp only [List.all_cons, Bool.and_eq_true] at ha
    rcases List.mem_cons.1 hu with rfl | hu
    · exact x.oneCell ha.1
    · exact VRs.oneCell y ha.2 u hu
theorem VR.cells {γ : Cx} {a : AV} {v : Value} (h : VR γ a v) (ha : a.cells.all okc = true ∨ ∀ l, a ≠ .agg l) : VRs γ a.cells v.cells.toList := by
  cases h <;> first | (exact .cons (by constructor <;> assumption) .nil) | assumption | (exact .cons (by constructor) .nil) | skip
  case opq i e =>
    have : (γ.opq i).cells = #[γ.opq i] := by
      generalize γ.opq i = u at e
      cases u <;> first | rfl | (simp [Value.oneCell'] at e)
    rw [this]
    exact .cons (.opq i e) .nil

theorem absV_ok {γ : Cx} {v : Value} {a : AV} (h : absV v = some a) : VR γ a v := by
  unfold absV at h
  split at h <;> simp at h <;> subst h
  · exact .bool _
  · exact .int _ _
  · exact .str _
  · exact .nilptr
  · exact .nilslice
  · exact .nilFunc
  · exact .nilIface
  · exact .tup .nil
theorem absAll_ok {γ : Cx} : ∀ {v : List Value} {a : List AV}, absAll v = some a → VRs γ a v
  | [], a, h => by simp [absAll] at h; subst h; exact .nil
  | v :: l, a, h => by
    simp only [absAll] at h
    cases hx : absV v with
    | none => simp [hx] at h
    | some x =>
      cases hr : absAll l with
      | none => simp [hx, hr] at h
      | some r =>
        simp [hx, hr] at h
        subst h
        exact .cons (absV_ok hx) (absAll_ok hr)
theorem absC_ok {γ : Cx} {v : Value} {a : AV} (h : absC v = some a) : VR γ a v := by
  unfold absC at h
  split at h
  · rename_i x hx
    simp only [Option.some.injEq] at h
    subst h
    exact absV_ok hx
  · split at h
    · split at h
      · rename_i l hl
        simp only [Option.some.injEq] at h
        subst h
        exact .agg (absAll_ok hl)
      · cases h
    · cases h
theorem absCells_ok {γ : Cx} {v : Value} {a : List AV} (h : absCells v = some a) : VRs γ a v.cells.toList := by
  cases v <;> first
    | exact absAll_ok h
    | (simp only [absCells] at h
       split at h
       · rename_i x hx
         simp only [Option.some.injEq] at h
         subst h
         exact .cons (absV_ok hx) .nil
       · cases h)

/-! ### Memory -/
/-- A block as the machine has it. -/
structure RelB (γ : Cx) (w : World) (id : Nat) (k : Blk) (β ω σ : Nat) : Prop where
  loc : γ.loc id = some (β, ω, σ)
  fit : ω + k.len ≤ σ
  there : ∀ i, i < σ → (w.cell? ⟨β, i, none⟩).isSome = true ∧ w.frozen? ⟨β, i, none⟩ = false
  cell : ∀ i, i < k.len → ∃ v av, k.cells.get i = some av ∧ okc av = true ∧ w.cell? ⟨β, ω + i, none⟩ = some v ∧ VR γ av v

abbrev HM := Nat → Option Blk
structure Rel (E : Env) (γ : Cx) (N : Nat) (H : HM) (w : World) : Prop where
  blk : ∀ {id : Nat} {k : Blk}, H id = some k → ∃ β ω σ, RelB γ w id k β ω σ
  low : ∀ {id : Nat} {l : Nat × Nat × Nat}, γ.loc id = some l → N ≤ l.1 ∧ l.1 < w.heap.size
  inj : ∀ {i j : Nat} {k k' : Blk} {l l' : Nat × Nat × Nat}, H i = some k → H j = some k' → γ.loc i = some l → γ.loc j = some l' → l.1 = l'.1 → i = j
  glob : ∀ {g : Nat} {v : AV}, E.globs.get g = some v → g < N ∧ ∃ rv, w.cell? ⟨g, 0, none⟩ = some rv ∧ VR γ v rv
  sym : ∀ {i : Nat} {lo hi : Int}, E.syms.get i = some (lo, hi) → lo ≤ γ.sym i ∧ γ.sym i ≤ hi

/-- What no step touches. -/
structure Same (w w' : World) : Prop where
  os : w'.os = w.os
  tape : w'.tape = w.tape
  output : w'.output = w.output
theorem Same.refl (w : World) : Same w w := ⟨rfl, rfl, rfl⟩
theorem Same.trans {w w' w'' : World} (h : Same w w') (g : Same w' w'') : Same w w'' := ⟨g.os.trans h.os, g.tape.trans h.tape, g.output.trans h.output⟩
/-- What a step keeps: names, all blocks that are none of H's; new names are of a stretch. -/
structure Nxt (γ : Cx) (H : HM) (w : World) (n : Nat) (γ' : Cx) (H' : HM) (w' : World) (n' : Nat) : Prop where
  le : γ.Le γ'
  size : w.heap.size ≤ w'.heap.size
  keep : ∀ β, β < w.heap.size → (∀ id k l, H id = some k → γ.loc id = some l → l.1 ≠ β) → w'.heap[β]? = w.heap[β]?
  img : ∀ {id : Nat} {k : Blk} {l : Nat × Nat × Nat}, H' id = some k → γ'.loc id = some l → w.heap.size ≤ l.1 ∨ ∃ j k0 l0, H j = some k0 ∧ γ.loc j = some l0 ∧ l0.1 = l.1
  dom : ∀ {id : Nat} {l : Nat × Nat × Nat}, γ'.loc id = some l → (∃ l0, γ.loc id = some l0) ∨ (n ≤ id ∧ id < n')
  num : n ≤ n'
  still : Same w w'
  new : ∀ {id : Nat} {k : Blk}, H' id = some k → (∃ k0, H id = some k0) ∨ (n ≤ id ∧ id < n')

theorem Nxt.refl (γ : Cx) (H : HM) (w : World) (n : Nat) : Nxt γ H w n γ H w n :=
  ⟨.refl _, Nat.le_refl _, fun _ _ _ => rfl, fun h e => .inr ⟨_, _, _, h, e, rfl⟩, fun e => .inl ⟨_, e⟩, Nat.le_refl _, .refl _, fun e => .inl ⟨_, e⟩⟩
theorem Nxt.trans {γ γ' γ'' : Cx} {H H' H'' : HM} {w w' w'' : World} {n n' n'' : Nat} (h : Nxt γ H w n γ' H' w' n') (g : Nxt γ' H' w' n' γ'' H'' w'' n'') : Nxt γ H w n γ'' H'' w'' n'' where
  le := h.le.trans g.le
  size := Nat.le_trans h.size g.size
  keep := fun β hβ hf => by
    rw [g.keep β (Nat.lt_of_lt_of_le hβ h.size) (fun id k l hk hl e => ?_), h.keep β hβ hf]
    rcases h.img hk hl with h1 | ⟨j, k0, l0, a, b, c⟩
    · omega
    · exact hf j k0 l0 a b (c.trans e)
  img := fun hk hl => by
    rcases g.img hk hl with h1 | ⟨j, k0, l0, a, b, c⟩
    · exact .inl (Nat.le_trans h.size h1)
    · rcases h.img a b with h2 | ⟨j', k1, l1, a', b', c'⟩
      · exact .inl (by omega)
      · exact .inr ⟨j', k1, l1, a', b', c'.trans c⟩
  dom := fun hl => by
    rcases g.dom hl with ⟨l0, h0⟩ | ⟨h1, h2⟩
    · rcases h.dom h0 with h3 | ⟨h3, h4⟩
      · exact .inl h3
      · exact .inr ⟨h3, Nat.lt_of_lt_of_le h4 g.num⟩
    · exact .inr ⟨Nat.le_trans h.num h1, h2⟩
  num := Nat.le_trans h.num g.num
  still := h.still.trans g.still
  new := fun e => by
    rcases g.new e with ⟨k0, h0⟩ | ⟨h1, h2⟩
    · rcases h.new h0 with h3 | ⟨h3, h4⟩
      · exact .inl h3
      · exact .inr ⟨h3, Nat.lt_of_lt_of_le h4 g.num⟩
    · exact .inr ⟨Nat.le_trans h.num h1, h2⟩

theorem cell?_heap {w w' : World} {β : Nat} (h : w'.heap[β]? = w.heap[β]?) (o : Nat) : w'.cell? ⟨β, o, none⟩ = w.cell? ⟨β, o, none⟩ := by
  unfold World.cell?
  simp only [h]
theorem frozen?_heap {w w' : World} {β : Nat} (h : w'.heap[β]? = w.heap[β]?) (o : Nat) : w'.frozen? ⟨β, o, none⟩ = w.frozen? ⟨β, o, none⟩ := by
  unfold World.frozen?
  simp only [h]
/-- A block that the step left alone. -/
theorem RelB.keep {γ γ' : Cx} {w w' : World} {id β ω σ : Nat} {k : Blk} (h : RelB γ w id k β ω σ) (hg : γ.Le γ') (hw : w'.heap[β]? = w.heap[β]?) : RelB γ' w' id k β ω σ where
  loc := hg.loc h.loc
  fit := h.fit
  there := fun i hi => by rw [cell?_heap hw, frozen?_heap hw]; exact h.there i hi
  cell := fun i hi => by
    obtain ⟨v, av, h1, h2, h3, h4⟩ := h.cell i hi
    exact ⟨v, av, h1, h2, by rw [cell?_heap hw]; exact h3, h4.mono hg⟩
theorem RelB.fun {γ : Cx} {w : World} {id β ω σ β' ω' σ' : Nat} {k : Blk} (h : RelB γ w id k β ω σ) (e : γ.loc id = some (β', ω', σ')) : β = β' ∧ ω = ω' ∧ σ = σ' := by
  have := h.loc
  rw [this] at e
  simpa using e

theorem Rel.heap {E : Env} {γ : Cx} {N : Nat} {H : HM} {w w' : World} (h : Rel E γ N H w) (hw : w'.heap = w.heap) : Rel E γ N H w' where
  blk := fun hk => by obtain ⟨β, ω, σ, hb⟩ := h.blk hk; exact ⟨β, ω, σ, hb.keep (.refl _) (by rw [hw])⟩
  low := fun hl => by rw [hw]; exact h.low hl
  inj := h.inj
  glob := fun hg => by
    obtain ⟨h1, rv, h2, h3⟩ := h.glob hg
    exact ⟨h1, rv, (cell?_heap (by rw [hw]) 0).trans h2, h3⟩
  sym := h.sym
theorem Nxt.heap {γ : Cx} {H : HM} {w w' : World} (n : Nat) (hw : w'.heap = w.heap) (hst : Same w w' := by exact ⟨rfl, rfl, rfl⟩) : Nxt γ H w n γ H w' n :=
  ⟨.refl _, by rw [hw]; exact Nat.le_refl _, fun _ _ _ => by rw [hw], fun h e => .inr ⟨_, _, _, h, e, rfl⟩, fun e => .inl ⟨_, e⟩, Nat.le_refl _, hst, fun e => .inl ⟨_, e⟩⟩
/-- Fewer blocks. -/
theorem Rel.less {E : Env} {γ : Cx} {N : Nat} {H H' : HM} {w : World} (h : Rel E γ N H w) (hs : ∀ id k, H' id = some k → H id = some k) : Rel E γ N H' w where
  blk := fun hk => h.blk (hs _ _ hk)
  low := h.low
  inj := fun a b => h.inj (hs _ _ a) (hs _ _ b)
  glob := h.glob
  sym := h.sym

def Cx.bind (γ : Cx) (id : Nat) (l : Nat × Nat × Nat) : Cx := { γ with loc := fun j => if j = id then some l else γ.loc j }
theorem Cx.le_bind {γ : Cx} {id : Nat} (l : Nat × Nat × Nat) (h : γ.loc id = none) : γ.Le (γ.bind id l) :=
  ⟨fun {b l'} e => by unfold Cx.bind; simp only; rw [if_neg (by rintro rfl; rw [h] at e; cases e)]; exact e, rfl, rfl⟩
theorem Cx.bind_same (γ : Cx) (id : Nat) (l : Nat × Nat × Nat) : (γ.bind id l).loc id = some l := by simp [Cx.bind]
theorem Cx.bind_ne {γ : Cx} {id j : Nat} (l : Nat × Nat × Nat) (h : j ≠ id) : (γ.bind id l).loc j = γ.loc j := by simp [Cx.bind, h]

def hset (H : HM) (id : Nat) (k : Blk) : HM := fun j => if id = j then some k else H j

/-- A new block. -/
theorem rel_new {E : Env} {γ : Cx} {N : Nat} {H : HM} {w w' : World} {cs : Array Value} {T : TypeId} {fz : Nat × Nat} {l : List AV} {vs : List Value} {id : Nat}
    (h : Rel E γ N H w) (hN : N ≤ w.heap.size) (hid : γ.loc id = none) (hw : w'.heap = w.heap.push (.cells cs T fz)) (hfz : ∀ i, i < cs.size → ¬ (fz.1 ≤ i ∧ i < fz.2))
    (hv : VRs γ l vs) (hc : l.all okc = true) (hl : vs.length ≤ cs.size) (hcs : ∀ i, i < vs.length → cs[i]? = vs[i]?) (hst : Same w w') :
    Rel E (γ.bind id (w.heap.size, 0, cs.size)) N (hset H id ⟨l.length, Tr.nil.put 0 l⟩) w' ∧ Nxt γ H w id (γ.bind id (w.heap.size, 0, cs.size)) (hset H id ⟨l.length, Tr.nil.put 0 l⟩) w' (id + 1) := by
  have hle := Cx.le_bind (w.heap.size, 0, cs.size) hid
  have hk : ∀ β, β < w.heap.size → w'.heap[β]? = w.heap[β]? := fun β hβ => by
    rw [hw, Array.getElem?_push, if_neg (by omega)]
  have hnew : w'.heap[w.heap.size]? = some (.cells cs T fz) := by rw [hw, Array.getElem?_push_size]
  have hcell : ∀ i, w'.cell? ⟨w.heap.size, i, none⟩ = cs[i]? := fun i => by unfold World.cell?; simp [hnew]
  have hsz : w'.heap.size = w.heap.size + 1 := by rw [hw]; simp
  have old : ∀ {i : Nat} {k : Blk}, id ≠ i → H i = some k → ∃ β ω σ, RelB (γ.bind id (w.heap.size, 0, cs.size)) w' i k β ω σ := fun {i k} hi hk' => by
    obtain ⟨β, ω, σ, hb⟩ := h.blk hk'
    exact ⟨β, ω, σ, hb.keep hle (hk β (h.low hb.loc).2)⟩
  have hHne : ∀ {k : Blk}, H id = some k → False := fun {k} e => by
    obtain ⟨β, ω, σ, hb⟩ := h.blk e
    rw [hb.loc] at hid; cases hid
  refine ⟨⟨?_, ?_, ?_, ?_, h.sym⟩, ⟨hle, by omega, fun β hβ _ => hk β hβ, ?_, ?_, by omega, hst, fun {i k} e => by
      unfold hset at e
      split at e
      · rename_i e0; subst e0; exact .inr ⟨Nat.le_refl _, by omega⟩
      · exact .inl ⟨_, e⟩⟩⟩
  · intro i k hi
    unfold hset at hi
    split at hi
    · rename_i e
      subst e
      simp only [Option.some.injEq] at hi
      subst hi
      refine ⟨w.heap.size, 0, cs.size, Cx.bind_same _ _ _, by simp only; have := hv.length; omega, fun i hi => ?_, fun i hi => ?_⟩
      · rw [hcell]
        refine ⟨by simp [hi], ?_⟩
        unfold World.frozen?
        simp only [hnew]
        have := hfz i hi
        simp only [Bool.and_eq_false_iff, decide_eq_false_iff_not]
        omega
      · simp only at hi
        obtain ⟨av, hav⟩ : ∃ av, l[i]? = some av := ⟨l[i], by simp [hi]⟩
        obtain ⟨v, hv1, hv2⟩ := hv.get i hav
        have hi' : i < vs.length := by have := hv.length; omega
        refine ⟨v, av, ?_, ?_, ?_, hv2.mono hle⟩
        · rw [Tr.get_put, if_pos (by omega)]; simpa using hav
        · exact List.all_eq_true.1 hc av (List.mem_of_getElem? hav)
        · rw [Nat.zero_add, hcell, hcs i hi', hv1]
    · exact old (by assumption) hi
  · intro i l' hl'
    by_cases e : i = id
    · subst e
      rw [Cx.bind_same] at hl'
      simp only [Option.some.injEq] at hl'
      subst hl'
      exact ⟨hN, by omega⟩
    · rw [Cx.bind_ne _ e] at hl'
      have := h.low hl'
      omega
  · intro i j k k' l1 l2 hi hj h1 h2 he
    unfold hset at hi hj
    by_cases ei : id = i
    · by_cases ej : id = j
      · omega
      · subst ei
        rw [Cx.bind_same] at h1
        rw [Cx.bind_ne _ (Ne.symm ej)] at h2
        have := h.low h2
        simp only [Option.some.injEq] at h1
        subst h1
        simp only at he
        omega
    · rw [if_neg ei] at hi
      rw [Cx.bind_ne _ (Ne.symm ei)] at h1
      by_cases ej : id = j
      · subst ej
        rw [Cx.bind_same] at h2
        have := h.low h1
        simp only [Option.some.injEq] at h2
        subst h2
        simp only at he
        omega
      · rw [if_neg ej] at hj
        rw [Cx.bind_ne _ (Ne.symm ej)] at h2
        exact h.inj hi hj h1 h2 he
  · intro g v hg
    obtain ⟨h1, rv, h2, h3⟩ := h.glob hg
    exact ⟨h1, rv, by rw [cell?_heap (hk g (by omega))]; exact h2, h3.mono hle⟩
  · intro i k l1 hi hl1
    by_cases e : i = id
    · subst e
      rw [Cx.bind_same] at hl1
      simp only [Option.some.injEq] at hl1
      subst hl1
      exact .inl (Nat.le_refl _)
    · unfold hset at hi
      rw [if_neg (Ne.symm e)] at hi
      rw [Cx.bind_ne _ e] at hl1
      exact .inr ⟨i, k, l1, hi, hl1, rfl⟩
  · intro i l1 hl1
    by_cases e : i = id
    · subst e; exact .inr ⟨Nat.le_refl _, by omega⟩
    · rw [Cx.bind_ne _ e] at hl1
      exact .inl ⟨_, hl1⟩
end Go.Proofs.YtfcfliclmjikkaaGreatDoor.Ex
