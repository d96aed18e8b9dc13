/- The plain runner: what a function that is ranged over does, over whatever its rounds are said to do. -/
import Derived.Test.YtfcfliclmjikkaaGreatDoorExs
import Derived.RangeFuncSeq
namespace Go.Proofs.YtfcfliclmjikkaaGreatDoor.Ex
open Go
set_option linter.unusedVariables false
set_option linter.unusedSimpArgs false

/-- 'Nxt', but for one block: a loop's record. -/
structure NxtBut (r : Nat) (γ : Cx) (H : HM) (w : World) (n : Nat) (γ' : Cx) (H' : HM) (w' : World) (n' : Nat) : Prop where
  le : γ.Le γ'
  size : w.heap.size ≤ w'.heap.size
  keep : ∀ β, β < w.heap.size → β ≠ r → (∀ id k l, H id = some k → γ.loc id = some l → l.1 ≠ β) → w'.heap[β]? = w.heap[β]?
  img : ∀ {id : Nat} {k : Blk} {l : Nat × Nat × Nat}, H' id = some k → γ'.loc id = some l → w.heap.size ≤ l.1 ∨ ∃ j k0 l0, H j = some k0 ∧ γ.loc j = some l0 ∧ l0.1 = l.1
  dom : ∀ {id : Nat} {l : Nat × Nat × Nat}, γ'.loc id = some l → (∃ l0, γ.loc id = some l0) ∨ (n ≤ id ∧ id < n')
  num : n ≤ n'
  still : Same w w'
  new : ∀ {id : Nat} {k : Blk}, H' id = some k → (∃ k0, H id = some k0) ∨ (n ≤ id ∧ id < n')
section
variable {r : Nat} {γ γ' γ'' : Cx} {H H' H'' : HM} {w w' w'' : World} {n n' n'' : Nat}
theorem Nxt.but (h : Nxt γ H w n γ' H' w' n') : NxtBut r γ H w n γ' H' w' n' := ⟨h.le, h.size, fun β a _ b => h.keep β a b, h.img, h.dom, h.num, h.still, h.new⟩
theorem NxtBut.trans (h : NxtBut r γ H w n γ' H' w' n') (g : NxtBut r γ' H' w' n' γ'' H'' w'' n'') : NxtBut r γ H w n γ'' H'' w'' n'' where
  le := h.le.trans g.le
  size := Nat.le_trans h.size g.size
  keep := fun β hβ hr hf => by
    rw [g.keep β (Nat.lt_of_lt_of_le hβ h.size) hr (fun id k l hk hl e => ?_), h.keep β hβ hr hf]
    rcases h.img hk hl with h1 | ⟨j, k0, l0, a, b, c⟩
    · omega
    · exact hf j k0 l0 a b (c.trans e)
  img := fun hk hl => by
    rcases g.img hk hl with h1 | ⟨j, k0, l0, a, b, c⟩
    · exact .inl (Nat.le_trans h.size h1)
    · rcases h.img a b with h2 | ⟨j', k1, l1, a', b', c'⟩
      · exact .inl (by omega)
      · exact .inr ⟨j', k1, l1, a', b', c'.trans c⟩
  dom := fun hl => by
    rcases g.dom hl with ⟨l0, h0⟩ | ⟨h1, h2⟩
    · rcases h.dom h0 with h3 | ⟨h3, h4⟩
      · exact .inl h3
      · exact .inr ⟨h3, Nat.lt_of_lt_of_le h4 g.num⟩
    · exact .inr ⟨Nat.le_trans h.num h1, h2⟩
  num := Nat.le_trans h.num g.num
  still := h.still.trans g.still
  new := fun e => by
    rcases g.new e with ⟨k0, h0⟩ | ⟨h1, h2⟩
    · rcases h.new h0 with h3 | ⟨h3, h4⟩
      · exact .inl h3
      · exact .inr ⟨h3, Nat.lt_of_lt_of_le h4 g.num⟩
    · exact .inr ⟨Nat.le_trans h.num h1, h2⟩
theorem NxtBut.putObj (h : NxtBut r γ H w n γ' H' w' n') {D : Nat} (hD : D = r ∨ w.heap.size ≤ D) (o : Obj) : NxtBut r γ H w n γ' H' (w'.putObj D o) n' where
  le := h.le
  size := by rw [World.putObj_size]; exact h.size
  keep := fun β hβ hr hf => by rw [World.putObj_heap_other (by omega)]; exact h.keep β hβ hr hf
  img := h.img
  dom := h.dom
  num := h.num
  still := h.still.trans ⟨rfl, rfl, rfl⟩
  new := h.new
/-- Where the record is none of what lay there ahead. -/
theorem Nxt.thenBut (h : Nxt γ H w n γ' H' w' n') (hr : w.heap.size ≤ r) (g : NxtBut r γ' H' w' n' γ'' H'' w'' n'') : Nxt γ H w n γ'' H'' w'' n'' := by
  have := (h.but (r := r)).trans g
  exact ⟨this.le, this.size, fun β a b => this.keep β a (by omega) b, this.img, this.dom, this.num, this.still, this.new⟩
theorem Marks.nextBut {Z : FuncId → Bool} {B : Nat} {a a' : Act} (h : Marks Z B γ H a w) (hr : r < B) (hx : NxtBut r γ H w n γ' H' w' n') (he : a'.defers = a.defers) : Marks Z B γ' H' a' w' :=
  ⟨Nat.le_trans h.base hx.size, by rw [he]; exact h.nd, fun d hd => by
    rw [he] at hd
    refine (h.each d hd).imp id fun ⟨D, h1, h2, h3, h4⟩ => ?_
    have hlt : D < w.heap.size := (Array.getElem?_eq_some_iff.1 h3).1
    refine ⟨D, h1, h2, (hx.keep D hlt (by omega) h4).trans h3, fun id k l hk hl e => ?_⟩
    rcases hx.img hk hl with q | ⟨j, k0, l0, x, y, z⟩
    · omega
    · exact h4 j k0 l0 x y (z.trans e)⟩
theorem free_restBut (hx : NxtBut r γ H w n γ' H' w' n') (h1 : n' ≤ n'') (hf : ∀ id, n ≤ id → id < n'' → γ.loc id = none) : ∀ id, n' ≤ id → id < n'' → γ'.loc id = none := fun id a b => by
  cases hl : γ'.loc id with
  | none => rfl
  | some l =>
    rcases hx.dom hl with ⟨l0, h0⟩ | ⟨_, h2⟩
    · rw [hf id (Nat.le_trans hx.num a) b] at h0; cases h0
    · omega

def Ext.code : Ext → Code
  | .normal => .skip
  | .exit id => .exit id
  | .ret => .ret
/-- Where a loop's record lies, and what it says. -/
structure LoopAt (r : Nat) (rec : LoopState → Option Code → Loop) (γ : Cx) (H : HM) (w : World) (p : Option Ext) : Prop where
  at_ : w.heap[r]? = some (.loop (match p with
    | none => rec .ready none
    | some e => rec .done (some e.code)))
  off : ∀ id k l, H id = some k → γ.loc id = some l → l.1 ≠ r
theorem LoopAt.lt {rec : LoopState → Option Code → Loop} {p : Option Ext} (h : LoopAt r rec γ H w p) : r < w.heap.size := (Array.getElem?_eq_some_iff.1 h.at_).1
theorem off_next {D : Nat} (h : ∀ id k l, H id = some k → γ.loc id = some l → l.1 ≠ D) (hr : D < w.heap.size) (hx : NxtBut r γ H w n γ' H' w' n') : ∀ id k l, H' id = some k → γ'.loc id = some l → l.1 ≠ D := fun id k l hk hl e => by
  rcases hx.img hk hl with q | ⟨j, k0, l0, x, y, z⟩
  · omega
  · exact h j k0 l0 x y (z.trans e)
theorem LoopAt.next {rec : LoopState → Option Code → Loop} {p : Option Ext} (h : LoopAt r rec γ H w p) (hx : Nxt γ H w n γ' H' w' n') : LoopAt r rec γ' H' w' p :=
  ⟨(hx.keep r h.lt h.off).trans h.at_, off_next h.off h.lt (hx.but (r := r))⟩
theorem LoopAt.putObj {rec : LoopState → Option Code → Loop} {p : Option Ext} (h : LoopAt r rec γ H w p) {D : Nat} (hD : D ≠ r) (o : Obj) : LoopAt r rec γ H (w.putObj D o) p :=
  ⟨(World.putObj_heap_other (Ne.symm hD)).trans h.at_, h.off⟩
end

/-- What a round is said to do. -/
def RoundsOk (E : Env) (N : Nat) (γL : Cx) (rounds : RoundF) (r : Nat) (rec : LoopState → Option Code → Loop) : Prop :=
  ∀ {xs : List AV} {H H' : AH} {e : Ext}, rounds xs H = some (e, H') → ∀ {γ : Cx} {w : World} {xs' : List Value}, γL.Le γ → Rel E γ N H.bs.get w → N ≤ w.heap.size → VRs γ xs xs' → (∀ id, H.n ≤ id → id < H'.n → γ.loc id = none) →
    LoopAt r rec γ H.bs.get w none → YieldAt (rd none) 0 E.P r xs'.toArray w fun en w' => en = .returned (.bool (goesOn e)) ∧ ∃ γ', Rel E γ' N H'.bs.get w' ∧ NxtBut r γ H.bs.get w H.n γ' H'.bs.get w' H'.n ∧ LoopAt r rec γ' H'.bs.get w' (pendOf e)

section
variable {E : Env} {γL : Cx} {γ : Cx} {N B nt : Nat} {w : World} {F : Fr} {a : Act} {rounds : RoundF} {r : Nat} {rec : LoopState → Option Code → Loop} {y : Nat} {call : CallF}

structure IR (E : Env) (γL γ : Cx) (N B nt : Nat) (s : IS) (r : Nat) (rec : LoopState → Option Code → Loop) (y : Nat) (a : Act) (w : World) : Prop where
  sr : SR E γ N B nt s.F s.H.bs.get a w
  le : γL.Le γ
  yl : γ.loc y = some (r, 0, 0)
  lp : LoopAt r rec γ s.H.bs.get w s.p

theorem yield_ok (hr : RoundsOk E N γL rounds r rec) (hrB : r < B) {ops : Array Oper} {o : Oper} {s s' : IS} (h : yieldX rounds nt y ops o s = some s') (hs : IR E γL γ N B nt s r rec y a w) (hf : ∀ id, s.H.n ≤ id → id < s'.H.n → γ.loc id = none)
    {K : Act → World → Prop} {Q : Exit → Act → World → Prop} (hK : ∀ γ' a' w', IR E γL γ' N B nt s' r rec y a' w' → NxtBut r γ s.H.bs.get w s.H.n γ' s'.H.bs.get w' s'.H.n → K a' w') :
    Region.wanted o (yielded ops a.tmps) = true ∧ o.wpIn (rd none) 0 E.P a w K Q := by
  unfold yieldX at h
  split at h
  · rename_i c hw hop hp
    split at h
    · rename_i f hc
      split at h
      · rename_i z hz
        split at h
        · rename_i hzy
          subst hzy
          split at h
          · rename_i xs hxs
            split at h
            · rename_i e H' hround
              split at h
              · rename_i F' hput
                simp only [Option.some.injEq] at h
                subst h
                refine ⟨wanted_ok hs.sr.fr hw, fun _ _ => trivial, ?_⟩
                have hv := opA_ok hs.sr.fr hz
                generalize hfv : a.eval f = fv at hv
                cases hv
                rename_i l ω σ hl
                rw [hs.yl] at hl
                simp only [Option.some.injEq, Prod.mk.injEq] at hl
                obtain ⟨rfl, _, _⟩ := hl
                have hargs := opsA_ok hs.sr.fr hxs
                have hlp := hs.lp
                rw [hp] at hlp
                obtain ⟨fn, tmps, assign, body, hy, hR⟩ := hr hround hs.le hs.sr.rel hs.sr.low hargs hf hlp
                have hrun : (execOp a.eval o).run E.P w = .ok (.round r fn tmps assign body) w := by
                  obtain ⟨dst, op, type, pos, after, guard⟩ := o
                  simp only at hop
                  subst hop
                  have hra : (List.map a.eval c.args.toList).toArray = c.args.map a.eval := by apply Array.ext'; simp
                  rw [hra] at hy
                  simp only [execOp, resolve, hc, hfv]
                  simp [invoke, hy, go_sem]
                show o.uponIn (rd none) 0 E.P a K Q ((execOp a.eval o).run E.P w)
                rw [hrun, Oper.uponIn_round]
                refine ⟨fun q => (by cases q), hR.mono ?_⟩
                rintro en w' ⟨rfl, γ', h1, h2, h3⟩
                refine hK γ' _ _ ⟨⟨h1, put_ok (hs.sr.fr.mono h2.le) (.bool _) hput hs.sr.size, Nat.le_trans hs.sr.low h2.size, by rw [put_size]; exact hs.sr.size, hs.sr.defs.nextBut hrB h2 (put_defers _ _)⟩, hs.le.trans h2.le, h2.le.loc hs.yl, h3⟩ h2
              · cases h
            · cases h
          · cases h
        · cases h
      · cases h
    · cases h
  · cases h

theorem exIList_ok (hcall : CallOk E call) (hnum : NumOk call) (ok : TyOk E) (hr : RoundsOk E N γL rounds r rec) (hrn : ∀ {xs H e H'}, rounds xs H = some (e, H') → H.n ≤ H'.n) (hrB : r < B) {ops : Array Oper} {Q : Exit → Act → World → Prop} :
    ∀ (l : List Oper) {γ : Cx} {a : Act} {w : World} {s s' : IS}, exIList E call rounds nt y ops l s = some s' → IR E γL γ N B nt s r rec y a w → (∀ id, s.H.n ≤ id → id < s'.H.n → γ.loc id = none) →
      (∀ γ' a' w', IR E γL γ' N B nt s' r rec y a' w' → NxtBut r γ s.H.bs.get w s.H.n γ' s'.H.bs.get w' s'.H.n → Q .normal a' w') → wpListIn (rd none) 0 E.P ops Q l a w
  | [], γ, a, w, s, s', h, hs, hf, K => by
    simp only [exIList, Option.some.injEq] at h
    subst h
    exact wpListIn_nil (K γ a w hs (Nxt.refl _ _ _ _).but)
  | o :: l, γ, a, w, s, s', h, hs, hf, K => by
    simp only [exIList] at h
    split at h
    · rename_i s1 h1
      have n1 := exI_num hnum hrn h1
      have n2 := exIList_num hnum hrn h
      refine wpListIn_step fun K' hK' => ?_
      unfold exIOne at h1
      split at h1
      · rename_i s2 ho
        simp only [Option.some.injEq] at h1
        subst h1
        simp only at n1 n2
        unfold exOne at ho
        split at ho
        · rename_i hw
          rw [wanted_ok hs.sr.fr hw, if_pos rfl]
          split at ho
          · rename_i x hx
            refine wp_of_fin hcall ok hs.sr hx ho (fun id a b => hf id a (by omega)) (fun γ' v v' w' hv hp hrel hnx => hK' _ _ ?_)
            exact exIList_ok hcall hnum ok hr hrn hrB l h ⟨hs.sr.next hnx hrel hv hp, hs.le.trans hnx.le, hnx.le.loc hs.yl, hs.lp.next hnx⟩ (free_rest hnx n2 hf) (fun γ2 a2 w2 hs2 hx2 => K γ2 a2 w2 hs2 (hnx.but.trans hx2))
          · cases ho
        · rename_i hw
          rw [wanted_ok hs.sr.fr hw, if_neg (by simp)]
          split at ho
          · rename_i F' hp
            simp only [Option.some.injEq] at ho
            subst ho
            have hnx : Nxt γ s.H.bs.get w s.H.n γ s.H.bs.get w s.H.n := .refl _ _ _ _
            exact ⟨fun _ _ => trivial, hK' _ _ (exIList_ok hcall hnum ok hr hrn hrB l h ⟨hs.sr.next hnx hs.sr.rel undef_ok hp, hs.le, hs.yl, hs.lp⟩ hf K)⟩
          · cases ho
        · cases ho
      · obtain ⟨q1, q2⟩ := yield_ok (Q := Q) hr hrB h1 hs (fun id a b => hf id a (by omega)) (K := K') (fun γ' a' w' hi hnx => hK' _ _ (exIList_ok hcall hnum ok hr hrn hrB l h hi (free_restBut hnx n2 hf) (fun γ2 a2 w2 hs2 hx2 => K γ2 a2 w2 hs2 (hnx.trans hx2))))
        rw [q1, if_pos rfl]
        exact q2
    · cases h

def CodeIOk (E : Env) (γL : Cx) (N B nt : Nat) (rounds : RoundF) (r : Nat) (rec : LoopState → Option Code → Loop) (y : Nat) (call : CallF) (n : Nat) : Prop :=
  ∀ {c : Code} {s s' : IS} {e : Ext}, exIC E call rounds nt y n c s = some (e, s') → ∀ {γ : Cx} {a : Act} {w : World} {Q : Exit → Act → World → Prop}, IR E γL γ N B nt s r rec y a w → (∀ id, s.H.n ≤ id → id < s'.H.n → γ.loc id = none) →
    (∀ γ' a' w', IR E γL γ' N B nt s' r rec y a' w' → NxtBut r γ s.H.bs.get w s.H.n γ' s'.H.bs.get w' s'.H.n → Q e.real a' w') → c.wpIn (rd none) 0 E.P Q a w
def LoopIOk (E : Env) (γL : Cx) (N B nt : Nat) (rounds : RoundF) (r : Nat) (rec : LoopState → Option Code → Loop) (y : Nat) (call : CallF) (n : Nat) : Prop :=
  ∀ {c : Code} {s s' : IS} {e : Ext}, exIC E call rounds nt y n (.loop c) s = some (e, s') → ∀ {γ : Cx} {a : Act} {w : World} {Q : Exit → Act → World → Prop}, IR E γL γ N B nt s r rec y a w → (∀ id, s.H.n ≤ id → id < s'.H.n → γ.loc id = none) →
    (∀ γ' a' w', IR E γL γ' N B nt s' r rec y a' w' → NxtBut r γ s.H.bs.get w s.H.n γ' s'.H.bs.get w' s'.H.n → Q e.real a' w') → Code.roundsIn (rd none) 0 E.P c Q n a w

theorem exIC_ok (hcall : CallOk E call) (hnum : NumOk call) (ok : TyOk E) (hdraw : DrawOk E nt call) (hr : RoundsOk E N γL rounds r rec) (hrn : ∀ {xs H e H'}, rounds xs H = some (e, H') → H.n ≤ H'.n) (hrB : r < B) : ∀ n, CodeIOk E γL N B nt rounds r rec y call n ∧ LoopIOk E γL N B nt rounds r rec y call n
  | 0 => ⟨fun h => by simp [exIC] at h, fun h => by simp [exIC] at h⟩
  | n + 1 => by
    obtain ⟨ihC, ihL⟩ := exIC_ok hcall hnum ok hdraw @hr hrn hrB n
    have loop : LoopIOk E γL N B nt rounds r rec y call (n + 1) := by
      intro c s s' e h γ a w Q hs hf K
      simp only [exIC] at h
      rw [roundsIn_succ]
      split at h
      · rename_i s1 h1
        have n1 := exIC_num hnum hrn h1
        have n2 := exIC_num hnum hrn h
        exact ihC h1 hs (fun id a b => hf id a (by omega)) (fun γ' a' w' hs' hx => ihL h hs' (free_restBut hx n2 hf) (fun γ2 a2 w2 hs2 hx2 => K γ2 a2 w2 hs2 (hx.trans hx2)))
      · rename_i q hq
        cases e with
        | normal => exact absurd h (hq s')
        | exit id => exact ihC h hs hf K
        | ret => exact ihC h hs hf K
    refine ⟨?_, loop⟩
    intro c s s' e h γ a w Q hs hf K
    have hrefl : NxtBut r γ s.H.bs.get w s.H.n γ s.H.bs.get w s.H.n := (Nxt.refl _ _ _ _).but
    cases c with
    | skip =>
      simp only [exIC, Option.some.injEq, Prod.mk.injEq] at h
      obtain ⟨rfl, rfl⟩ := h
      exact wpIn_skip (K γ a w hs hrefl)
    | label l =>
      simp only [exIC, Option.some.injEq, Prod.mk.injEq] at h
      obtain ⟨rfl, rfl⟩ := h
      exact wpIn_label (K γ a w hs hrefl)
    | ret =>
      simp only [exIC, Option.some.injEq, Prod.mk.injEq] at h
      obtain ⟨rfl, rfl⟩ := h
      exact wpIn_ret (K γ a w hs hrefl)
    | exit id =>
      simp only [exIC, Option.some.injEq, Prod.mk.injEq] at h
      obtain ⟨rfl, rfl⟩ := h
      exact wpIn_exit (K γ a w hs hrefl)
    | region id ops draw =>
      simp only [exIC] at h
      cases draw with
      | true =>
        simp only at h
        split at h
        · rename_i s1 h1
          simp only [Option.some.injEq, Prod.mk.injEq] at h
          obtain ⟨rfl, rfl⟩ := h
          exact hdraw h1 hs.sr hf (fun γ' a' w' hs' hx => K γ' a' w' ⟨hs', hs.le.trans hx.le, hx.le.loc hs.yl, hs.lp.next hx⟩ hx.but)
        · cases h
      | false =>
        simp only at h
        split at h
        · rename_i s1 h1
          simp only [Option.some.injEq, Prod.mk.injEq] at h
          obtain ⟨rfl, rfl⟩ := h
          exact wpIn_region_list (exIList_ok hcall hnum ok @hr hrn hrB _ h1 hs hf K)
        · cases h
    | seq x z =>
      simp only [exIC] at h
      refine wpIn_seq ?_
      split at h
      · rename_i s1 h1
        have n1 := exIC_num hnum hrn h1
        have n2 := exIC_num hnum hrn h
        exact ihC h1 hs (fun id a b => hf id a (by omega)) (fun γ' a' w' hs' hx => ihC h hs' (free_restBut hx n2 hf) (fun γ2 a2 w2 hs2 hx2 => K γ2 a2 w2 hs2 (hx.trans hx2)))
      · rename_i q hq
        cases e with
        | normal => exact absurd h (hq s')
        | exit id => exact ihC h hs hf K
        | ret => exact ihC h hs hf K
    | cond b x z =>
      simp only [exIC] at h
      split at h
      · rename_i t hb
        have hp := opA_ok hs.sr.fr hb
        generalize hbv : a.eval b = bv at hp
        cases hp
        split at h
        · exact wpIn_cond_true hbv (ihC h hs hf K)
        · exact wpIn_cond_false hbv (ihC h hs hf K)
      · cases h
    | block id x =>
      simp only [exIC] at h
      refine wpIn_block ?_
      split at h
      · rename_i j s1 h1
        simp only [Option.some.injEq, Prod.mk.injEq] at h
        obtain ⟨h2, rfl⟩ := h
        refine ihC h1 hs hf (fun γ' a' w' hs' hx => ?_)
        have := K γ' a' w' hs' hx
        simp only [Ext.real, Exit.inBlock]
        split at h2
        · rename_i hj; subst h2; rw [if_pos hj]; exact this
        · rename_i hj; subst h2; rw [if_neg hj]; exact this
      · rename_i q hq
        cases e with
        | exit id => exact absurd h (hq id s')
        | normal => exact ihC h hs hf K
        | ret => exact ihC h hs hf K
    | loop x => exact wpIn_loop_rounds (n + 1) (loop h hs hf K)
    | scope x =>
      simp only [exIC] at h
      refine wpIn_scope_straight (ihC h hs hf (fun γ' a' w' hs' hx => ?_))
      have := K γ' a' w' hs' hx
      cases e <;> exact this
    | rangeFunc f p x y => simp [exIC] at h
    | goto l => simp [exIC] at h
    | refuse s => simp [exIC] at h

theorem frame_ok {γ : Cx} {args : List AV} {args' : List Value} (h : VRs γ args args') (m : Nat) : FRel γ (Tr.nil.put 0 args) { tmps := args'.toArray ++ Array.replicate m undef, defers := [] } := by
  have hal := h.length
  intro t0
  obtain ⟨t, rfl⟩ : ∃ t' : Nat, t' = t0 := ⟨t0, rfl⟩
  have hget : (args'.toArray ++ Array.replicate m undef).getD t undef = args'.getD t undef := by
    simp only [Array.getD_eq_getD_getElem?, Array.getElem?_append, List.getD_eq_getElem?_getD]
    by_cases ht : t < args'.length
    · simp [ht]
    · simp only [List.size_toArray, ht, if_false, Array.getElem?_replicate]
      rw [List.getElem?_eq_none (by omega)]
      split <;> rfl
  simp only
  rw [hget]
  unfold tmpA
  rw [Tr.get_put]
  by_cases ht : t < args.length
  · rw [if_pos (by omega)]
    obtain ⟨x, hx⟩ : ∃ x, args[t]? = some x := ⟨args[t], by simp [ht]⟩
    obtain ⟨y, hy, hxy⟩ := h.get t hx
    simp only [Nat.sub_zero, hx]
    rw [List.getD_eq_getElem?_getD, hy]
    exact hxy
  · rw [if_neg (by omega), Tr.get_nil]
    simp only
    rw [List.getD_eq_getElem?_getD, List.getElem?_eq_none (by omega)]
    exact undef_ok

/-- What the function that is ranged over does. -/
theorem iter_ok (hcall : CallOk E call) (hnum : NumOk call) (ok : TyOk E) (fok : FnOk E) (hdraw : ∀ nt, DrawOk E nt call) (hr : RoundsOk E N γL rounds r rec) (hrn : ∀ {xs H e H'}, rounds xs H = some (e, H') → H.n ≤ H'.n) {n : Nat} {gf : FuncId} {cap : List AV} {cap' : Array Value} {H H' : AH} {e : Ext} (h : iterA E call rounds n gf cap H = some (e, H'))
    (hrel : Rel E γ N H.bs.get w) (hN : N ≤ w.heap.size) (hle : γL.Le γ) (hyl : γ.loc H.n = some (r, 0, 0)) (hcap : VRs γ cap cap'.toList) (hlp : LoopAt r rec γ H.bs.get w none) (hf : ∀ id, H.n + 1 ≤ id → id < H'.n → γ.loc id = none) :
    (∀ args w, (callFunc gf args).run E.P w = .ok (.enter gf args) w) ∧ CallsIn (rd none) 0 E.P gf (#[.func (.yield r) #[] #[]] ++ cap') w fun en w' => (∃ v, en = .returned v) ∧ ∃ γ', Rel E γ' N H'.bs.get w' ∧ NxtBut r γ H.bs.get w (H.n + 1) γ' H'.bs.get w' H'.n ∧ LoopAt r rec γ' H'.bs.get w' (pendOf e) := by
  unfold iterA at h
  split at h
  · cases h
  · rename_i i hi
    obtain ⟨fn, f1, f2, f3, f4, f5⟩ := fok.fn hi
    refine ⟨fun args w => callFunc_run f1 f2 f5, ?_⟩
    split at h
    · cases h
    · rename_i hlen
      split at h
      · cases h
      · rename_i e1 s hc hne
        split at h
        · rename_i rs hrs
          have hargs : VRs γ (.yld H.n :: cap) (.func (.yield r) #[] #[] :: cap'.toList) := .cons (.yld hyl) hcap
          have harr : (#[Value.func (.yield r) #[] #[]] ++ cap') = (Value.func (.yield r) #[] #[] :: cap'.toList).toArray := by apply Array.ext'; simp
          have hcl := hcap.length
          rw [harr]
          have hs0 : IR E γL γ N w.heap.size i.ntmps ⟨Tr.nil.put 0 (.yld H.n :: cap), ⟨H.n + 1, H.bs⟩, none⟩ r rec H.n { tmps := (Value.func (.yield r) #[] #[] :: cap'.toList).toArray ++ Array.replicate (fn.ntmps - (Value.func (.yield r) #[] #[] :: cap'.toList).toArray.size) undef, defers := [] } w :=
            ⟨⟨hrel, frame_ok hargs _, hN, by simp only [Array.size_append, List.size_toArray, Array.size_replicate, List.length_cons]; simp at hcl; omega, .none (Nat.le_refl _) rfl⟩, hle, hyl, hlp⟩
          have hpe : pendOf e = s.p ∧ H' = s.H := by
            split at h
            · rename_i hp
              simp only [Option.some.injEq, Prod.mk.injEq] at h
              obtain ⟨rfl, rfl⟩ := h
              exact ⟨hp.symm, rfl⟩
            · cases h
            · rename_i e2 hne2 hp
              simp only [Option.some.injEq, Prod.mk.injEq] at h
              obtain ⟨rfl, rfl⟩ := h
              refine ⟨?_, rfl⟩
              rw [hp]
              cases e2 with
              | normal => exact absurd rfl hne2
              | exit id => rfl
              | ret => rfl
          obtain ⟨hp, rfl⟩ := hpe
          have hfin : ∀ (a' : Act) (γ' : Cx) (w' : World), IR E γL γ' N w.heap.size i.ntmps s r rec H.n a' w' → NxtBut r γ H.bs.get w (H.n + 1) γ' s.H.bs.get w' s.H.n → LeavesInM (rd none) 0 E.P fn a'.tmps (fun en w' => (∃ v, en = .returned v) ∧ ∃ γ', Rel E γ' N s.H.bs.get w' ∧ NxtBut r γ H.bs.get w (H.n + 1) γ' s.H.bs.get w' s.H.n ∧ LoopAt r rec γ' s.H.bs.get w' (pendOf e)) a'.defers .returning w' := fun a' γ' w' hi hx =>
            leaves_marks fok.quiet (T := fun w2 => Rel E γ' N s.H.bs.get w2 ∧ NxtBut r γ H.bs.get w (H.n + 1) γ' s.H.bs.get w2 s.H.n ∧ LoopAt r rec γ' s.H.bs.get w2 s.p)
              (fun {w2 D} o h1 h2 h3 => ⟨h3.1.putObj (Nat.le_trans hN h1) h2 _, h3.2.1.putObj (.inr h1) _, h3.2.2.putObj (by have := hlp.lt; omega) _⟩) a'.defers rfl hi.sr.defs ⟨hi.sr.rel, hx, hi.lp⟩ (fun w2 h2 => by
                obtain ⟨v', g1, g2⟩ := results_run (a := a') ok h2.1 hi.sr.fr (fn := fn) (by rw [f4]; exact hrs)
                exact ⟨v', g1, ⟨v', rfl⟩, γ', h2.1, h2.2.1, by rw [hp]; exact h2.2.2⟩)
          refine callsIn_of_wp_marks (n := 0) f1 f2 trivial ?_
          refine (exIC_ok @hcall @hnum ok (@hdraw i.ntmps) @hr hrn hlp.lt n).1 hne hs0 hf (fun γ' a' w' hi hx => ?_)
          cases e1 with
          | normal => exact hfin a' γ' w' hi hx
          | ret => exact hfin a' γ' w' hi hx
          | exit id => exact (hc id rfl).elim
        · cases h
      · cases h
end
end Go.Proofs.YtfcfliclmjikkaaGreatDoor.Ex
