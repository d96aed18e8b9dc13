/- Walks by hand beside the runner: steps that leave its memory alone; maps of one entry. -/
import Derived.Test.YtfcfliclmjikkaaGreatDoorFh
import Derived.WideMake
namespace Go.Proofs.YtfcfliclmjikkaaGreatDoor.Ex
open Go
set_option linter.unusedVariables false
set_option linter.unusedSimpArgs false

/-- Steps that turn no block of old but one. -/
structure Aside (D : Nat) (w w' : World) : Prop where
  size : w.heap.size ≤ w'.heap.size
  still : Same w w'
  keep : ∀ β, β < w.heap.size → β ≠ D → w'.heap[β]? = w.heap[β]?
theorem Aside.refl (D : Nat) (w : World) : Aside D w w := ⟨Nat.le_refl _, .refl _, fun _ _ _ => rfl⟩
theorem Aside.trans {D : Nat} {w w' w'' : World} (h : Aside D w w') (g : Aside D w' w'') : Aside D w w'' :=
  ⟨Nat.le_trans h.size g.size, h.still.trans g.still, fun β a b => (g.keep β (Nat.lt_of_lt_of_le a h.size) b).trans (h.keep β a b)⟩
theorem Aside.of_below {D : Nat} {w w' : World} (h : RowKit.Below w.heap.size w w') : Aside D w w' := ⟨h.size, ⟨h.os, h.tape, h.output⟩, fun β a _ => h.block β a⟩
section
variable {E : Env} {γ γ' : Cx} {N D n n' : Nat} {H H' : HM} {w w' w'' : World}
theorem Rel.aside (h : Rel E γ N H w) (hx : Aside D w w') (hD : ∀ id k l, H id = some k → γ.loc id = some l → l.1 ≠ D) (hN : N ≤ D) (hw : N ≤ w.heap.size) : Rel E γ N H w' where
  blk := fun hk => by
    obtain ⟨β, ω, σ, hb⟩ := h.blk hk
    exact ⟨β, ω, σ, hb.keep (.refl _) (hx.keep β (h.low hb.loc).2 (hD _ _ _ hk hb.loc))⟩
  low := fun hl => ⟨(h.low hl).1, Nat.lt_of_lt_of_le (h.low hl).2 hx.size⟩
  inj := h.inj
  glob := fun hg => by
    obtain ⟨h1, rv, h2, h3⟩ := h.glob hg
    exact ⟨h1, rv, (cell?_heap (hx.keep _ (by omega) (by omega)) 0).trans h2, h3⟩
  sym := h.sym
/-- What a round by hand adds behind. -/
theorem Nxt.aside (h : Nxt γ H w n γ' H' w' n') (hx : Aside D w' w'') (hD : w.heap.size ≤ D) : Nxt γ H w n γ' H' w'' n' where
  le := h.le
  size := Nat.le_trans h.size hx.size
  keep := fun β a b => (hx.keep β (Nat.lt_of_lt_of_le a h.size) (by omega)).trans (h.keep β a b)
  img := h.img
  dom := h.dom
  num := h.num
  still := h.still.trans hx.still
  new := h.new
/-- .. and ahead. -/
theorem Nxt.ahead (hx : Aside D w w') (hD : w.heap.size ≤ D) (h : Nxt γ H w' n γ' H' w'' n') : Nxt γ H w n γ' H' w'' n' where
  le := h.le
  size := Nat.le_trans hx.size h.size
  keep := fun β a b => (h.keep β (Nat.lt_of_lt_of_le a hx.size) b).trans (hx.keep β a (by omega))
  img := fun hk hl => (h.img hk hl).imp (fun q => Nat.le_trans hx.size q) id
  dom := h.dom
  num := h.num
  still := hx.still.trans h.still
  new := h.new
/-- A block made by hand is none of the runner's later. -/
theorem off_made (h : Nxt γ H w' n γ' H' w'' n') (hD : D < w'.heap.size) (hoff : ∀ id k l, H id = some k → γ.loc id = some l → l.1 ≠ D) : ∀ id k l, H' id = some k → γ'.loc id = some l → l.1 ≠ D := fun id k l hk hl e => by
  rcases h.img hk hl with q | ⟨j, k0, l0, a, b, c⟩
  · omega
  · exact hoff j k0 l0 a b (c.trans e)
end

/-- What a slice's cells are, as the machine has them. -/
theorem loadA_cells {E : Env} {γ : Cx} {N : Nat} {H : AH} {w : World} (h : Rel E γ N H.bs.get w) {b o n : Nat} {l : List AV} (hl : loadA H b o n = some l) {β ω σ : Nat} (hb : γ.loc b = some (β, ω, σ)) :
    l.length = n ∧ ∀ i x, l[i]? = some x → ∃ v, w.cell? ⟨β, ω + o + i, none⟩ = some v ∧ VR γ x v := by
  unfold loadA at hl
  split at hl
  · rename_i k hk
    split at hl
    · rename_i hle
      obtain ⟨β', ω', σ', hB⟩ := h.blk hk
      have e := hB.loc.symm.trans hb
      simp only [Option.some.injEq, Prod.mk.injEq] at e
      obtain ⟨rfl, rfl, rfl⟩ := e
      have key : ∀ (n o : Nat) (l : List AV), k.cells.take o n = some l → l.length = n ∧ ∀ i x, l[i]? = some x → k.cells.get (o + i) = some x := by
        intro n
        induction n with
        | zero =>
          intro o l hl
          simp only [Tr.take, Option.some.injEq] at hl
          subst hl
          exact ⟨rfl, fun i x hx => by simp at hx⟩
        | succ n ih =>
          intro o l hl
          simp only [Tr.take] at hl
          split at hl
          · rename_i x hx
            split at hl
            · rename_i r hr
              simp only [Option.some.injEq] at hl
              subst hl
              obtain ⟨h1, h2⟩ := ih (o + 1) r hr
              refine ⟨by simp [h1], fun i y hy => ?_⟩
              cases i with
              | zero => simp only [List.getElem?_cons_zero, Option.some.injEq] at hy; subst hy; exact hx
              | succ i =>
                rw [List.getElem?_cons_succ] at hy
                have := h2 i y hy
                rwa [show o + (i + 1) = o + 1 + i by omega]
            · cases hl
          · cases hl
      obtain ⟨h1, h2⟩ := key n o l hl
      refine ⟨h1, fun i x hx => ?_⟩
      have hi : i < l.length := (List.getElem?_eq_some_iff.1 hx).1
      obtain ⟨v, av, k1, k2, k3, k4⟩ := hB.cell (o + i) (by omega)
      rw [h2 i x hx] at k1
      simp only [Option.some.injEq] at k1
      subst k1
      exact ⟨v, by rw [Nat.add_assoc]; exact k3, k4⟩
    · cases hl
  · cases hl

/-! ### A map of one entry -/
theorem run_lookup_one {P : Program} {w : World} {mt kt et : TypeId} {M : Nat} {s : ByteArray} {v : Value} {c k : Nat} (hm : P.underlying mt = some (.map kt et)) (hk : P.underlying kt = some .string) (hb : w.heap[M]? = some (.map #[{ key := .string s, val := v, born := c }] k)) :
    (Instr.lookup mt (.map (some M)) (.string s) false).run P w = .ok v w := by
  have hf : Instr.findNow .string (.string s) [({ key := .string s, val := v, born := c } : MapEntry)] 0 = some (some (0, v)) := by
    have : (s == s) = true := by rw [beq_toListBytes]; simp
    simp only [Instr.findNow, Instr.sameNow, this]
  have hc : ∀ b, (Instr.checkKey b 10000 kt (.string s)).run P w = .ok () w := fun b => MapKept.run_checkKey (k := .string s) hk (by simp [MapKept.IsKey]) b 9999
  simp [Instr.lookup, run_underlying hm, MapKept.run_getObj_map hb, hc, MapKept.run_findKey hk hf, Result.andThen]
end Go.Proofs.YtfcfliclmjikkaaGreatDoor.Ex
