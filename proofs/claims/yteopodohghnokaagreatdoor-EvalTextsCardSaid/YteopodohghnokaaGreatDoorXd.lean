/- The plain runner: what a function that is ranged over does, over whatever its rounds are said to do. -/
import Derived.Test.YteopodohghnokaaGreatDoorXc
import Derived.RangeFuncSeq
import Derived.Below
import Derived.RangeFuncOwn
import Derived.Orders
import Derived.OrdersIn
section
namespace Go.Proofs.YteopodohghnokaaGreatDoor.Ex
open Go
set_option linter.unusedVariables false
set_option linter.unusedSimpArgs false

/-- 'Nxt', but for one block: a loop's record. -/
structure NxtBut (r : Nat) (γ : Cx) (H : HM) (w : World) (n : Nat) (γ' : Cx) (H' : HM) (w' : World) (n' : Nat) : Prop where
  le : γ.Le γ'
  size : w.heap.size ≤ w'.heap.size
  keep : ∀ β, β < w.heap.size → β ≠ r → (∀ id k l, H id = some k → γ.loc id = some l → l.1 ≠ β) → w'.heap[β]? = w.heap[β]?
  img : ∀ {id : Nat} {k : Blk} {l : Nat × Nat × Nat}, H' id = some k → γ'.loc id = some l → w.heap.size ≤ l.1 ∨ ∃ j k0 l0, H j = some k0 ∧ γ.loc j = some l0 ∧ l0.1 = l.1
  dom : ∀ {id : Nat} {l : Nat × Nat × Nat}, γ'.loc id = some l → (∃ l0, γ.loc id = some l0) ∨ (n ≤ id ∧ id < n')
  num : n ≤ n'
  still : Same w w'
  new : ∀ {id : Nat} {k : Blk}, H' id = some k → (∃ k0, H id = some k0) ∨ (n ≤ id ∧ id < n')
section
variable {r : Nat} {γ γ' γ'' : Cx} {H H' H'' : HM} {w w' w'' : World} {n n' n'' : Nat}
theorem Nxt.but (h : Nxt γ H w n γ' H' w' n') : NxtBut r γ H w n γ' H' w' n' := ⟨h.le, h.size, fun β a _ b => h.keep β a b, h.img, h.dom, h.num, h.still, h.new⟩
theorem NxtBut.trans (h : NxtBut r γ H w n γ' H' w' n') (g : NxtBut r γ' H' w' n' γ'' H'' w'' n'') : NxtBut r γ H w n γ'' H'' w'' n'' where
  le := h.le.trans g.le
  size := Nat.le_trans h.size g.size
  keep := fun β hβ hr hf => by
    rw [g.keep β (Nat.lt_of_lt_of_le hβ h.size) hr (fun id k l hk hl e => ?_), h.keep β hβ hr hf]
    rcases h.img hk hl with h1 | ⟨j, k0, l0, a, b, c⟩
    · omega
    · exact hf j k0 l0 a b (c.trans e)
  img := fun hk hl => by
    rcases g.img hk hl with h1 | ⟨j, k0, l0, a, b, c⟩
    · exact .inl (Nat.le_trans h.size h1)
    · rcases h.img a b with h2 | ⟨j', k1, l1, a', b', c'⟩
      · exact .inl (by omega)
      · exact .inr ⟨j', k1, l1, a', b', c'.trans c⟩
  dom := fun hl => by
    rcases g.dom hl with ⟨l0, h0⟩ | ⟨h1, h2⟩
    · rcases h.dom h0 with h3 | ⟨h3, h4⟩
      · exact .inl h3
      · exact .inr ⟨h3, Nat.lt_of_lt_of_le h4 g.num⟩
    · exact .inr ⟨Nat.le_trans h.num h1, h2⟩
  num := Nat.le_trans h.num g.num
  still := h.still.trans g.still
  new := fun e => by
    rcases g.new e with ⟨k0, h0⟩ | ⟨h1, h2⟩
    · rcases h.new h0 with h3 | ⟨h3, h4⟩
      · exact .inl h3
      · exact .inr ⟨h3, Nat.lt_of_lt_of_le h4 g.num⟩
    · exact .inr ⟨Nat.le_trans h.num h1, h2⟩
theorem NxtBut.putObj (h : NxtBut r γ H w n γ' H' w' n') {D : Nat} (hD : D = r ∨ w.heap.size ≤ D) (o : Obj) : NxtBut r γ H w n γ' H' (w'.putObj D o) n' where
  le := h.le
  size := by rw [World.putObj_size]; exact h.size
  keep := fun β hβ hr hf => by rw [World.putObj_heap_other (by omega)]; exact h.keep β hβ hr hf
  img := h.img
  dom := h.dom
  num := h.num
  still := h.still.trans ⟨rfl, rfl, rfl⟩
  new := h.new
/-- Where the record is none of what lay there ahead. -/
theorem Nxt.thenBut (h : Nxt γ H w n γ' H' w' n') (hr : w.heap.size ≤ r) (g : NxtBut r γ' H' w' n' γ'' H'' w'' n'') : Nxt γ H w n γ'' H'' w'' n'' := by
  have := (h.but (r := r)).trans g
  exact ⟨this.le, this.size, fun β a b => this.keep β a (by omega) b, this.img, this.dom, this.num, this.still, this.new⟩
theorem Marks.nextBut {Z : FuncId → Bool} {B : Nat} {a a' : Act} (h : Marks Z B γ H a w) (hr : r < B) (hx : NxtBut r γ H w n γ' H' w' n') (he : a'.defers = a.defers) : Marks Z B γ' H' a' w' :=
  ⟨Nat.le_trans h.base hx.size, by rw [he]; exact h.nd, fun d hd => by
    rw [he] at hd
    refine (h.each d hd).imp id fun ⟨D, h1, h2, h3, h4⟩ => ?_
    have hlt : D < w.heap.size := (Array.getElem?_eq_some_iff.1 h3).1
    refine ⟨D, h1, h2, (hx.keep D hlt (by omega) h4).trans h3, fun id k l hk hl e => ?_⟩
    rcases hx.img hk hl with q | ⟨j, k0, l0, x, y, z⟩
    · omega
    · exact h4 j k0 l0 x y (z.trans e)⟩
theorem free_restBut (hx : NxtBut r γ H w n γ' H' w' n') (h1 : n' ≤ n'') (hf : ∀ id, n ≤ id → id < n'' → γ.loc id = none) : ∀ id, n' ≤ id → id < n'' → γ'.loc id = none := fun id a b => by
  cases hl : γ'.loc id with
  | none => rfl
  | some l =>
    rcases hx.dom hl with ⟨l0, h0⟩ | ⟨_, h2⟩
    · rw [hf id (Nat.le_trans hx.num a) b] at h0; cases h0
    · omega

def Ext.code : Ext → Code
  | .normal => .skip
  | .exit id => .exit id
  | .ret => .ret
/-- Where a loop's record lies, and what it says. -/
structure LoopAt (r : Nat) (rec : LoopState → Option Code → Loop) (γ : Cx) (H : HM) (w : World) (p : Option Ext) : Prop where
  at_ : w.heap[r]? = some (.loop (match p with
    | none => rec .ready none
    | some e => rec .done (some e.code)))
  off : ∀ id k l, H id = some k → γ.loc id = some l → l.1 ≠ r
theorem LoopAt.lt {rec : LoopState → Option Code → Loop} {p : Option Ext} (h : LoopAt r rec γ H w p) : r < w.heap.size := (Array.getElem?_eq_some_iff.1 h.at_).1
theorem off_next {D : Nat} (h : ∀ id k l, H id = some k → γ.loc id = some l → l.1 ≠ D) (hr : D < w.heap.size) (hx : NxtBut r γ H w n γ' H' w' n') : ∀ id k l, H' id = some k → γ'.loc id = some l → l.1 ≠ D := fun id k l hk hl e => by
  rcases hx.img hk hl with q | ⟨j, k0, l0, x, y, z⟩
  · omega
  · exact h j k0 l0 x y (z.trans e)
theorem LoopAt.next {rec : LoopState → Option Code → Loop} {p : Option Ext} (h : LoopAt r rec γ H w p) (hx : Nxt γ H w n γ' H' w' n') : LoopAt r rec γ' H' w' p :=
  ⟨(hx.keep r h.lt h.off).trans h.at_, off_next h.off h.lt (hx.but (r := r))⟩
theorem LoopAt.putObj {rec : LoopState → Option Code → Loop} {p : Option Ext} (h : LoopAt r rec γ H w p) {D : Nat} (hD : D ≠ r) (o : Obj) : LoopAt r rec γ H (w.putObj D o) p :=
  ⟨(World.putObj_heap_other (Ne.symm hD)).trans h.at_, h.off⟩
end

/-- What a round is said to do. -/
def RoundsOk (E : Env) (N : Nat) (γL : Cx) (rounds : RoundF) (r : Nat) (rec : LoopState → Option Code → Loop) : Prop :=
  ∀ {xs : List AV} {H H' : AH} {e : Ext}, rounds xs H = some (e, H') → ∀ {γ : Cx} {w : World} {xs' : List Value}, γL.Le γ → Rel E γ N H.bs.get w → N ≤ w.heap.size → VRs γ xs xs' → (∀ id, H.n ≤ id → id < H'.n → γ.loc id = none) →
    LoopAt r rec γ H.bs.get w none → YieldAt (rd none) 0 E.P r xs'.toArray w fun en w' => en = .returned (.bool (goesOn e)) ∧ ∃ γ', Rel E γ' N H'.bs.get w' ∧ NxtBut r γ H.bs.get w H.n γ' H'.bs.get w' H'.n ∧ LoopAt r rec γ' H'.bs.get w' (pendOf e)

section
variable {E : Env} {γL : Cx} {γ : Cx} {N B nt : Nat} {w : World} {F : Fr} {a : Act} {rounds : RoundF} {r : Nat} {rec : LoopState → Option Code → Loop} {y : Nat} {call : CallF}

structure IR (E : Env) (γL γ : Cx) (N B nt : Nat) (s : IS) (r : Nat) (rec : LoopState → Option Code → Loop) (y : Nat) (a : Act) (w : World) : Prop where
  sr : SR E γ N B nt s.F s.H.bs.get a w
  le : γL.Le γ
  yl : γ.loc y = some (r, 0, 0)
  lp : LoopAt r rec γ s.H.bs.get w s.p

theorem yield_ok (hr : RoundsOk E N γL rounds r rec) (hrB : r < B) {ops : Array Oper} {o : Oper} {s s' : IS} (h : yieldX rounds nt y ops o s = some s') (hs : IR E γL γ N B nt s r rec y a w) (hf : ∀ id, s.H.n ≤ id → id < s'.H.n → γ.loc id = none)
    {K : Act → World → Prop} {Q : Exit → Act → World → Prop} (hK : ∀ γ' a' w', IR E γL γ' N B nt s' r rec y a' w' → NxtBut r γ s.H.bs.get w s.H.n γ' s'.H.bs.get w' s'.H.n → K a' w') :
    Region.wanted o (yielded ops a.tmps) = true ∧ o.wpIn (rd none) 0 E.P a w K Q := by
  unfold yieldX at h
  split at h
  · rename_i c hw hop hp
    split at h
    · rename_i f hc
      split at h
      · rename_i z hz
        split at h
        · rename_i hzy
          subst hzy
          split at h
          · rename_i xs hxs
            split at h
            · rename_i e H' hround
              split at h
              · rename_i F' hput
                simp only [Option.some.injEq] at h
                subst h
                refine ⟨wanted_ok hs.sr.fr hw, fun _ _ => trivial, ?_⟩
                have hv := opA_ok hs.sr.fr hz
                generalize hfv : a.eval f = fv at hv
                cases hv
                rename_i l ω σ hl
                rw [hs.yl] at hl
                simp only [Option.some.injEq, Prod.mk.injEq] at hl
                obtain ⟨rfl, _, _⟩ := hl
                have hargs := opsA_ok hs.sr.fr hxs
                have hlp := hs.lp
                rw [hp] at hlp
                obtain ⟨fn, tmps, assign, body, hy, hR⟩ := hr hround hs.le hs.sr.rel hs.sr.low hargs hf hlp
                have hrun : (execOp a.eval o).run E.P w = .ok (.round r fn tmps assign body) w := by
                  obtain ⟨dst, op, type, pos, after, guard⟩ := o
                  simp only at hop
                  subst hop
                  have hra : (List.map a.eval c.args.toList).toArray = c.args.map a.eval := by apply Array.ext'; simp
                  rw [hra] at hy
                  simp only [execOp, resolve, hc, hfv]
                  simp [invoke, hy, go_sem]
                show o.uponIn (rd none) 0 E.P a K Q ((execOp a.eval o).run E.P w)
                rw [hrun, Oper.uponIn_round]
                refine ⟨fun q => (by cases q), hR.mono ?_⟩
                rintro en w' ⟨rfl, γ', h1, h2, h3⟩
                refine hK γ' _ _ ⟨⟨h1, put_ok (hs.sr.fr.mono h2.le) (.bool _) hput hs.sr.size, Nat.le_trans hs.sr.low h2.size, by rw [put_size]; exact hs.sr.size, hs.sr.defs.nextBut hrB h2 (put_defers _ _)⟩, hs.le.trans h2.le, h2.le.loc hs.yl, h3⟩ h2
              · cases h
            · cases h
          · cases h
        · cases h
      · cases h
    · cases h
  · cases h

theorem exIList_ok (hcall : CallOk E call) (hnum : NumOk call) (ok : TyOk E) (hr : RoundsOk E N γL rounds r rec) (hrn : ∀ {xs H e H'}, rounds xs H = some (e, H') → H.n ≤ H'.n) (hrB : r < B) {ops : Array Oper} {Q : Exit → Act → World → Prop} :
    ∀ (l : List Oper) {γ : Cx} {a : Act} {w : World} {s s' : IS}, exIList E call rounds nt y ops l s = some s' → IR E γL γ N B nt s r rec y a w → (∀ id, s.H.n ≤ id → id < s'.H.n → γ.loc id = none) →
      (∀ γ' a' w', IR E γL γ' N B nt s' r rec y a' w' → NxtBut r γ s.H.bs.get w s.H.n γ' s'.H.bs.get w' s'.H.n → Q .normal a' w') → wpListIn (rd none) 0 E.P ops Q l a w
  | [], γ, a, w, s, s', h, hs, hf, K => by
    simp only [exIList, Option.some.injEq] at h
    subst h
    exact wpListIn_nil (K γ a w hs (Nxt.refl _ _ _ _).but)
  | o :: l, γ, a, w, s, s', h, hs, hf, K => by
    simp only [exIList] at h
    split at h
    · rename_i s1 h1
      have n1 := exI_num hnum hrn h1
      have n2 := exIList_num hnum hrn h
      refine wpListIn_step fun K' hK' => ?_
      unfold exIOne at h1
      split at h1
      · rename_i s2 ho
        simp only [Option.some.injEq] at h1
        subst h1
        simp only at n1 n2
        unfold exOne at ho
        split at ho
        · rename_i hw
          rw [wanted_ok hs.sr.fr hw, if_pos rfl]
          split at ho
          · rename_i x hx
            refine wp_of_fin hcall ok hs.sr hx ho (fun id a b => hf id a (by omega)) (fun γ' v v' w' hv hp hrel hnx => hK' _ _ ?_)
            exact exIList_ok hcall hnum ok hr hrn hrB l h ⟨hs.sr.next hnx hrel hv hp, hs.le.trans hnx.le, hnx.le.loc hs.yl, hs.lp.next hnx⟩ (free_rest hnx n2 hf) (fun γ2 a2 w2 hs2 hx2 => K γ2 a2 w2 hs2 (hnx.but.trans hx2))
          · cases ho
        · rename_i hw
          rw [wanted_ok hs.sr.fr hw, if_neg (by simp)]
          split at ho
          · rename_i F' hp
            simp only [Option.some.injEq] at ho
            subst ho
            have hnx : Nxt γ s.H.bs.get w s.H.n γ s.H.bs.get w s.H.n := .refl _ _ _ _
            exact ⟨fun _ _ => trivial, hK' _ _ (exIList_ok hcall hnum ok hr hrn hrB l h ⟨hs.sr.next hnx hs.sr.rel undef_ok hp, hs.le, hs.yl, hs.lp⟩ hf K)⟩
          · cases ho
        · cases ho
      · obtain ⟨q1, q2⟩ := yield_ok (Q := Q) hr hrB h1 hs (fun id a b => hf id a (by omega)) (K := K') (fun γ' a' w' hi hnx => hK' _ _ (exIList_ok hcall hnum ok hr hrn hrB l h hi (free_restBut hnx n2 hf) (fun γ2 a2 w2 hs2 hx2 => K γ2 a2 w2 hs2 (hnx.trans hx2))))
        rw [q1, if_pos rfl]
        exact q2
    · cases h

def CodeIOk (E : Env) (γL : Cx) (N B nt : Nat) (rounds : RoundF) (r : Nat) (rec : LoopState → Option Code → Loop) (y : Nat) (call : CallF) (n : Nat) : Prop :=
  ∀ {c : Code} {s s' : IS} {e : Ext}, exIC E call rounds nt y n c s = some (e, s') → ∀ {γ : Cx} {a : Act} {w : World} {Q : Exit → Act → World → Prop}, IR E γL γ N B nt s r rec y a w → (∀ id, s.H.n ≤ id → id < s'.H.n → γ.loc id = none) →
    (∀ γ' a' w', IR E γL γ' N B nt s' r rec y a' w' → NxtBut r γ s.H.bs.get w s.H.n γ' s'.H.bs.get w' s'.H.n → Q e.real a' w') → c.wpIn (rd none) 0 E.P Q a w
def LoopIOk (E : Env) (γL : Cx) (N B nt : Nat) (rounds : RoundF) (r : Nat) (rec : LoopState → Option Code → Loop) (y : Nat) (call : CallF) (n : Nat) : Prop :=
  ∀ {c : Code} {s s' : IS} {e : Ext}, exIC E call rounds nt y n (.loop c) s = some (e, s') → ∀ {γ : Cx} {a : Act} {w : World} {Q : Exit → Act → World → Prop}, IR E γL γ N B nt s r rec y a w → (∀ id, s.H.n ≤ id → id < s'.H.n → γ.loc id = none) →
    (∀ γ' a' w', IR E γL γ' N B nt s' r rec y a' w' → NxtBut r γ s.H.bs.get w s.H.n γ' s'.H.bs.get w' s'.H.n → Q e.real a' w') → Code.roundsIn (rd none) 0 E.P c Q n a w

theorem exIC_ok (hcall : CallOk E call) (hnum : NumOk call) (ok : TyOk E) (hdraw : DrawOk E nt call) (hr : RoundsOk E N γL rounds r rec) (hrn : ∀ {xs H e H'}, rounds xs H = some (e, H') → H.n ≤ H'.n) (hrB : r < B) : ∀ n, CodeIOk E γL N B nt rounds r rec y call n ∧ LoopIOk E γL N B nt rounds r rec y call n
  | 0 => ⟨fun h => by simp [exIC] at h, fun h => by simp [exIC] at h⟩
  | n + 1 => by
    obtain ⟨ihC, ihL⟩ := exIC_ok hcall hnum ok hdraw @hr hrn hrB n
    have loop : LoopIOk E γL N B nt rounds r rec y call (n + 1) := by
      intro c s s' e h γ a w Q hs hf K
      simp only [exIC] at h
      rw [roundsIn_succ]
      split at h
      · rename_i s1 h1
        have n1 := exIC_num hnum hrn h1
        have n2 := exIC_num hnum hrn h
        exact ihC h1 hs (fun id a b => hf id a (by omega)) (fun γ' a' w' hs' hx => ihL h hs' (free_restBut hx n2 hf) (fun γ2 a2 w2 hs2 hx2 => K γ2 a2 w2 hs2 (hx.trans hx2)))
      · rename_i q hq
        cases e with
        | normal => exact absurd h (hq s')
        | exit id => exact ihC h hs hf K
        | ret => exact ihC h hs hf K
    refine ⟨?_, loop⟩
    intro c s s' e h γ a w Q hs hf K
    have hrefl : NxtBut r γ s.H.bs.get w s.H.n γ s.H.bs.get w s.H.n := (Nxt.refl _ _ _ _).but
    cases c with
    | skip =>
      simp only [exIC, Option.some.injEq, Prod.mk.injEq] at h
      obtain ⟨rfl, rfl⟩ := h
      exact wpIn_skip (K γ a w hs hrefl)
    | label l =>
      simp only [exIC, Option.some.injEq, Prod.mk.injEq] at h
      obtain ⟨rfl, rfl⟩ := h
      exact wpIn_label (K γ a w hs hrefl)
    | ret =>
      simp only [exIC, Option.some.injEq, Prod.mk.injEq] at h
      obtain ⟨rfl, rfl⟩ := h
      exact wpIn_ret (K γ a w hs hrefl)
    | exit id =>
      simp only [exIC, Option.some.injEq, Prod.mk.injEq] at h
      obtain ⟨rfl, rfl⟩ := h
      exact wpIn_exit (K γ a w hs hrefl)
    | region id ops draw =>
      simp only [exIC] at h
      cases draw with
      | true =>
        simp only at h
        split at h
        · rename_i s1 h1
          simp only [Option.some.injEq, Prod.mk.injEq] at h
          obtain ⟨rfl, rfl⟩ := h
          exact hdraw h1 hs.sr hf (fun γ' a' w' hs' hx => K γ' a' w' ⟨hs', hs.le.trans hx.le, hx.le.loc hs.yl, hs.lp.next hx⟩ hx.but)
        · cases h
      | false =>
        simp only at h
        split at h
        · rename_i s1 h1
          simp only [Option.some.injEq, Prod.mk.injEq] at h
          obtain ⟨rfl, rfl⟩ := h
          exact wpIn_region_list (exIList_ok hcall hnum ok @hr hrn hrB _ h1 hs hf K)
        · cases h
    | seq x z =>
      simp only [exIC] at h
      refine wpIn_seq ?_
      split at h
      · rename_i s1 h1
        have n1 := exIC_num hnum hrn h1
        have n2 := exIC_num hnum hrn h
        exact ihC h1 hs (fun id a b => hf id a (by omega)) (fun γ' a' w' hs' hx => ihC h hs' (free_restBut hx n2 hf) (fun γ2 a2 w2 hs2 hx2 => K γ2 a2 w2 hs2 (hx.trans hx2)))
      · rename_i q hq
        cases e with
        | normal => exact absurd h (hq s')
        | exit id => exact ihC h hs hf K
        | ret => exact ihC h hs hf K
    | cond b x z =>
      simp only [exIC] at h
      split at h
      · rename_i t hb
        have hp := opA_ok hs.sr.fr hb
        generalize hbv : a.eval b = bv at hp
        cases hp
        split at h
        · exact wpIn_cond_true hbv (ihC h hs hf K)
        · exact wpIn_cond_false hbv (ihC h hs hf K)
      · cases h
    | block id x =>
      simp only [exIC] at h
      refine wpIn_block ?_
      split at h
      · rename_i j s1 h1
        simp only [Option.some.injEq, Prod.mk.injEq] at h
        obtain ⟨h2, rfl⟩ := h
        refine ihC h1 hs hf (fun γ' a' w' hs' hx => ?_)
        have := K γ' a' w' hs' hx
        simp only [Ext.real, Exit.inBlock]
        split at h2
        · rename_i hj; subst h2; rw [if_pos hj]; exact this
        · rename_i hj; subst h2; rw [if_neg hj]; exact this
      · rename_i q hq
        cases e with
        | exit id => exact absurd h (hq id s')
        | normal => exact ihC h hs hf K
        | ret => exact ihC h hs hf K
    | loop x => exact wpIn_loop_rounds (n + 1) (loop h hs hf K)
    | scope x =>
      simp only [exIC] at h
      refine wpIn_scope_straight (ihC h hs hf (fun γ' a' w' hs' hx => ?_))
      have := K γ' a' w' hs' hx
      cases e <;> exact this
    | rangeFunc f p x y => simp [exIC] at h
    | goto l => simp [exIC] at h
    | refuse s => simp [exIC] at h

theorem frame_ok {γ : Cx} {args : List AV} {args' : List Value} (h : VRs γ args args') (m : Nat) : FRel γ (Tr.nil.put 0 args) { tmps := args'.toArray ++ Array.replicate m undef, defers := [] } := by
  have hal := h.length
  intro t0
  obtain ⟨t, rfl⟩ : ∃ t' : Nat, t' = t0 := ⟨t0, rfl⟩
  have hget : (args'.toArray ++ Array.replicate m undef).getD t undef = args'.getD t undef := by
    simp only [Array.getD_eq_getD_getElem?, Array.getElem?_append, List.getD_eq_getElem?_getD]
    by_cases ht : t < args'.length
    · simp [ht]
    · simp only [List.size_toArray, ht, if_false, Array.getElem?_replicate]
      rw [List.getElem?_eq_none (by omega)]
      split <;> rfl
  simp only
  rw [hget]
  unfold tmpA
  rw [Tr.get_put]
  by_cases ht : t < args.length
  · rw [if_pos (by omega)]
    obtain ⟨x, hx⟩ : ∃ x, args[t]? = some x := ⟨args[t], by simp [ht]⟩
    obtain ⟨y, hy, hxy⟩ := h.get t hx
    simp only [Nat.sub_zero, hx]
    rw [List.getD_eq_getElem?_getD, hy]
    exact hxy
  · rw [if_neg (by omega), Tr.get_nil]
    simp only
    rw [List.getD_eq_getElem?_getD, List.getElem?_eq_none (by omega)]
    exact undef_ok

/-- What the function that is ranged over does. -/
theorem iter_ok (hcall : CallOk E call) (hnum : NumOk call) (ok : TyOk E) (fok : FnOk E) (hdraw : ∀ nt, DrawOk E nt call) (hr : RoundsOk E N γL rounds r rec) (hrn : ∀ {xs H e H'}, rounds xs H = some (e, H') → H.n ≤ H'.n) {n : Nat} {gf : FuncId} {cap : List AV} {cap' : Array Value} {H H' : AH} {e : Ext} (h : iterA E call rounds n gf cap H = some (e, H'))
    (hrel : Rel E γ N H.bs.get w) (hN : N ≤ w.heap.size) (hle : γL.Le γ) (hyl : γ.loc H.n = some (r, 0, 0)) (hcap : VRs γ cap cap'.toList) (hlp : LoopAt r rec γ H.bs.get w none) (hf : ∀ id, H.n + 1 ≤ id → id < H'.n → γ.loc id = none) :
    (∀ args w, (callFunc gf args).run E.P w = .ok (.enter gf args) w) ∧ CallsIn (rd none) 0 E.P gf (#[.func (.yield r) #[] #[]] ++ cap') w fun en w' => (∃ v, en = .returned v) ∧ ∃ γ', Rel E γ' N H'.bs.get w' ∧ NxtBut r γ H.bs.get w (H.n + 1) γ' H'.bs.get w' H'.n ∧ LoopAt r rec γ' H'.bs.get w' (pendOf e) := by
  unfold iterA at h
  split at h
  · cases h
  · rename_i i hi
    obtain ⟨fn, f1, f2, f3, f4, f5⟩ := fok.fn hi
    refine ⟨fun args w => callFunc_run f1 f2 f5, ?_⟩
    split at h
    · cases h
    · rename_i hlen
      split at h
      · cases h
      · rename_i e1 s hc hne
        split at h
        · rename_i rs hrs
          have hargs : VRs γ (.yld H.n :: cap) (.func (.yield r) #[] #[] :: cap'.toList) := .cons (.yld hyl) hcap
          have harr : (#[Value.func (.yield r) #[] #[]] ++ cap') = (Value.func (.yield r) #[] #[] :: cap'.toList).toArray := by apply Array.ext'; simp
          have hcl := hcap.length
          rw [harr]
          have hs0 : IR E γL γ N w.heap.size i.ntmps ⟨Tr.nil.put 0 (.yld H.n :: cap), ⟨H.n + 1, H.bs⟩, none⟩ r rec H.n { tmps := (Value.func (.yield r) #[] #[] :: cap'.toList).toArray ++ Array.replicate (fn.ntmps - (Value.func (.yield r) #[] #[] :: cap'.toList).toArray.size) undef, defers := [] } w :=
            ⟨⟨hrel, frame_ok hargs _, hN, by simp only [Array.size_append, List.size_toArray, Array.size_replicate, List.length_cons]; simp at hcl; omega, .none (Nat.le_refl _) rfl⟩, hle, hyl, hlp⟩
          have hpe : pendOf e = s.p ∧ H' = s.H := by
            split at h
            · rename_i hp
              simp only [Option.some.injEq, Prod.mk.injEq] at h
              obtain ⟨rfl, rfl⟩ := h
              exact ⟨hp.symm, rfl⟩
            · cases h
            · rename_i e2 hne2 hp
              simp only [Option.some.injEq, Prod.mk.injEq] at h
              obtain ⟨rfl, rfl⟩ := h
              refine ⟨?_, rfl⟩
              rw [hp]
              cases e2 with
              | normal => exact absurd rfl hne2
              | exit id => rfl
              | ret => rfl
          obtain ⟨hp, rfl⟩ := hpe
          have hfin : ∀ (a' : Act) (γ' : Cx) (w' : World), IR E γL γ' N w.heap.size i.ntmps s r rec H.n a' w' → NxtBut r γ H.bs.get w (H.n + 1) γ' s.H.bs.get w' s.H.n → LeavesInM (rd none) 0 E.P fn a'.tmps (fun en w' => (∃ v, en = .returned v) ∧ ∃ γ', Rel E γ' N s.H.bs.get w' ∧ NxtBut r γ H.bs.get w (H.n + 1) γ' s.H.bs.get w' s.H.n ∧ LoopAt r rec γ' s.H.bs.get w' (pendOf e)) a'.defers .returning w' := fun a' γ' w' hi hx =>
            leaves_marks fok.quiet (T := fun w2 => Rel E γ' N s.H.bs.get w2 ∧ NxtBut r γ H.bs.get w (H.n + 1) γ' s.H.bs.get w2 s.H.n ∧ LoopAt r rec γ' s.H.bs.get w2 s.p)
              (fun {w2 D} o h1 h2 h3 => ⟨h3.1.putObj (Nat.le_trans hN h1) h2 _, h3.2.1.putObj (.inr h1) _, h3.2.2.putObj (by have := hlp.lt; omega) _⟩) a'.defers rfl hi.sr.defs ⟨hi.sr.rel, hx, hi.lp⟩ (fun w2 h2 => by
                obtain ⟨v', g1, g2⟩ := results_run (a := a') ok h2.1 hi.sr.fr (fn := fn) (by rw [f4]; exact hrs)
                exact ⟨v', g1, ⟨v', rfl⟩, γ', h2.1, h2.2.1, by rw [hp]; exact h2.2.2⟩)
          refine callsIn_of_wp_marks (n := 0) f1 f2 trivial ?_
          refine (exIC_ok @hcall @hnum ok (@hdraw i.ntmps) @hr hrn hlp.lt n).1 hne hs0 hf (fun γ' a' w' hi hx => ?_)
          cases e1 with
          | normal => exact hfin a' γ' w' hi hx
          | ret => exact hfin a' γ' w' hi hx
          | exit id => exact (hc id rfl).elim
        · cases h
      · cases h
end
end Go.Proofs.YteopodohghnokaaGreatDoor.Ex
end
section
namespace Go.Proofs.YteopodohghnokaaGreatDoor.Ex
open Go
set_option linter.unusedVariables false
set_option linter.unusedSimpArgs false
section
variable {E : Env} {γ : Cx} {N B nt : Nat} {w : World} {F : Fr} {a : Act} {ρ : Option Nat}


def mkRec (fn : FuncId) (tmps : Array Value) (ps : Array Tmp) (assign body : Code) (D : Nat) : LoopState → Option Code → Loop :=
  fun st pe => { state := st, pending := pe, fn, tmps, params := ps, assign, body, defers := D }

theorem putAll_ok {γ : Cx} {nt : Nat} : ∀ {ps : List Tmp} {xs : List AV} {xs' : List Value} {F F1 : Fr} {tmps : Array Value}, putAllA nt F ps xs = some F1 → VRs γ xs xs' → FRel γ F { tmps := tmps, defers := [] } → nt ≤ tmps.size →
    ps.length = xs'.length ∧ FRel γ F1 { tmps := (ps.zip xs').foldl (fun t (q : Tmp × Value) => t.setIfInBounds q.1 q.2) tmps, defers := [] } ∧ ((ps.zip xs').foldl (fun t (q : Tmp × Value) => t.setIfInBounds q.1 q.2) tmps).size = tmps.size
  | [], xs, xs', F, F1, tmps, h, hv, hF, hs => by
    cases hv with
    | nil =>
      simp only [putAllA, Option.some.injEq] at h
      subst h
      exact ⟨rfl, by simpa using hF, rfl⟩
    | cons _ _ => simp [putAllA] at h
  | p :: ps, xs, xs', F, F1, tmps, h, hv, hF, hs => by
    cases hv with
    | nil => simp [putAllA] at h
    | cons h1 h2 =>
      rename_i v v' l l'
      simp only [putAllA] at h
      split at h
      · rename_i hp
        have hF2 : FRel γ (F.set p v) { tmps := tmps.setIfInBounds p v', defers := [] } := fun t => by
          rw [tmpA_set]
          simp only
          rw [getD_set]
          by_cases e : p = t
          · rw [if_pos e, if_pos ⟨e, Nat.lt_of_lt_of_le hp hs⟩]; exact h1
          · rw [if_neg e, if_neg (fun q => e q.1)]; exact hF t
        obtain ⟨k1, k2, k3⟩ := putAll_ok h h2 hF2 (by simpa using hs)
        refine ⟨by simp [k1], by simpa using k2, by simpa using k3⟩
      · cases h

/-- One round. -/
theorem rounds_ok {call : CallF} {n : Nat} (ihC : CodeOk E nt call n) {γL : Cx} {ps : Array Tmp} {assign body : Code} (ha : noRange assign = true) (hb : noRange body = true) (hF : FRel γL F a) (hsz : nt ≤ a.tmps.size) {r D : Nat} {fn : FuncId} (hNr : N ≤ r) (hnum : ∀ {c F H e s}, exC E call nt n c F H = some (e, s) → H.n ≤ s.H.n) :
    RoundsOk E N γL (roundA (exC E call nt n) nt F ps.toList assign body) r (mkRec fn a.tmps ps assign body D) := by
  intro xs H H' e h γ w xs' hle hrel hN hargs hf hlp
  unfold roundA at h
  split at h
  · rename_i F1 hput
    split at h
    · rename_i s1 h1
      split at h
      · rename_i e2 s2 h2
        simp only [Option.some.injEq, Prod.mk.injEq] at h
        obtain ⟨rfl, rfl⟩ := h
        obtain ⟨k1, k2, k3⟩ := putAll_ok (tmps := a.tmps) hput hargs (fun t => (hF t).mono hle) hsz
        have hfold : ((ps.zip xs'.toArray).foldl (fun tmps (t, a) => tmps.setIfInBounds t a) a.tmps) = (ps.toList.zip xs').foldl (fun t (q : Tmp × Value) => t.setIfInBounds q.1 q.2) a.tmps := by
          rw [← Array.foldl_toList]
          simp
        have n1 := hnum h1
        have n2 := hnum h2
        refine ⟨fn, _, assign, body, run_yield hlp.at_ (by simp [mkRec, ← k1]), roundIn_of_wpIn trivial ?_⟩
        show assign.wpIn (rd (some r)) 0 E.P _ { tmps := ((ps.zip xs'.toArray).foldl (fun tmps (t, a) => tmps.setIfInBounds t a) a.tmps), defers := [] } w
        rw [hfold]
        refine ihC h1 (B := w.heap.size) (.inr ha) ⟨hrel, k2, hN, by rw [k3]; exact hsz, .none (Nat.le_refl _) rfl⟩ (fun id q1 q2 => hf id q1 (by omega)) (fun γ1 a1 w1 hs1 hx1 => ?_)
        have hl1 := hlp.next hx1
        have hnm : ({ target := .collected r, args := #[] } : Deferred) ∉ a1.defers := fun hm => by
          obtain ⟨D', q1, q2, _⟩ := (hs1.defs.each _ hm).resolve_left IsQuiet.not_mark
          simp only [Deferred.mk.injEq, Target.collected.injEq, and_true] at q1
          have := hlp.lt
          omega
        refine ⟨_, run_beginRound hl1.at_ rfl, ?_⟩
        refine ihC h2 (ρ := some r) (B := w.heap.size) (.inr hb) ⟨hs1.rel.putObj hNr hl1.off _, hs1.fr, by rw [World.putObj_size]; exact hs1.low, hs1.size, hs1.defs.putObj hnm _⟩ (free_rest hx1 n2 hf) (fun γ2 a2 w2 hs2 hx2 => ?_)
        have hlt1 : r < w1.heap.size := hl1.lt
        have hbusy := (hx2.keep r (by rw [World.putObj_size]; exact hlt1) hl1.off).trans (World.putObj_heap_same hlt1)
        have hoff := off_next hl1.off (by rw [World.putObj_size]; exact hlt1) (hx2.but (r := r))
        have hlt2 : r < w2.heap.size := (Array.getElem?_eq_some_iff.1 hbusy).1
        have hbut := ((hx1.but (r := r)).putObj (.inl rfl) _).trans hx2.but
        cases e2 with
        | normal =>
          exact ⟨_, _, run_endRound none hbusy, rfl, γ2, hs2.rel.putObj hNr hoff _, hbut.putObj (.inl rfl) _, ⟨World.putObj_heap_same hlt2, hoff⟩⟩
        | ret =>
          exact ⟨_, _, run_endRound (some .ret) hbusy, rfl, γ2, hs2.rel.putObj hNr hoff _, hbut.putObj (.inl rfl) _, ⟨World.putObj_heap_same hlt2, hoff⟩⟩
        | exit id =>
          exact ⟨_, _, run_endRound (some (.exit id)) hbusy, rfl, γ2, hs2.rel.putObj hNr hoff _, hbut.putObj (.inl rfl) _, ⟨World.putObj_heap_same hlt2, hoff⟩⟩
      · cases h
    · cases h
  · cases h

/-- A name for what is none of the runner's memory. -/
theorem bind_name {H : HM} {id r : Nat} {w' : World} (h : Rel E γ N H w) (hid : γ.loc id = none) (hw : ∀ β, β < w.heap.size → w'.heap[β]? = w.heap[β]?) (hN : N ≤ w.heap.size) (h1 : w.heap.size ≤ r) (h2 : r < w'.heap.size) (hst : Same w w') :
    Rel E (γ.bind id (r, 0, 0)) N H w' ∧ Nxt γ H w id (γ.bind id (r, 0, 0)) H w' (id + 1) := by
  have hle := Cx.le_bind (r, 0, 0) hid
  have hne : ∀ {i k}, H i = some k → i ≠ id := fun {i k} hk e => by
    obtain ⟨β, ω, σ, hb⟩ := h.blk hk
    have := hb.loc
    rw [e, hid] at this
    cases this
  refine ⟨⟨fun {i k} hk => ?_, fun {i l} hl => ?_, fun {i j k k' l l'} a b c d => h.inj a b (by rwa [Cx.bind_ne _ (hne a)] at c) (by rwa [Cx.bind_ne _ (hne b)] at d), fun {g v} hg => ?_, h.sym⟩, ⟨hle, by omega, fun β hβ _ => hw β hβ, fun {i k l} hk hl => .inr ⟨i, k, l, hk, by rwa [Cx.bind_ne _ (hne hk)] at hl, rfl⟩, fun {i l} hl => ?_, by omega, hst, fun hk => .inl ⟨_, hk⟩⟩⟩
  · obtain ⟨β, ω, σ, hb⟩ := h.blk hk
    exact ⟨β, ω, σ, hb.keep hle (hw β (h.low hb.loc).2)⟩
  · by_cases e : i = id
    · subst e
      rw [Cx.bind_same] at hl
      simp only [Option.some.injEq] at hl
      subst hl
      exact ⟨by show N ≤ r; omega, h2⟩
    · rw [Cx.bind_ne _ e] at hl
      have := h.low hl
      omega
  · obtain ⟨g1, rv, g2, g3⟩ := h.glob hg
    exact ⟨g1, rv, (cell?_heap (hw g (by omega)) 0).trans g2, g3.mono hle⟩
  · by_cases e : i = id
    · subst e; exact .inr ⟨Nat.le_refl _, by omega⟩
    · rw [Cx.bind_ne _ e] at hl
      exact .inl ⟨_, hl⟩

theorem range_ok {call : CallF} (hcall : CallOk E call) (hnum : NumOk call) (ok : TyOk E) (fok : FnOk E) (hdraw : ∀ nt, DrawOk E nt call) {n : Nat} (ihC : CodeOk E nt call n) {g : Operand} {ps : Array Tmp} {assign body : Code} {H : AH} {e : Ext} {s : St}
    (h : (match noRange assign && noRange body with
      | false => none
      | true => match opA F g with
        | some (.func gf [] cap) => match iterA E call (roundA (exC E call nt n) nt F ps.toList assign body) n gf cap H with
          | some (e, H') => some (e, ⟨F, H'⟩)
          | none => none
        | _ => none) = some (e, s)) {Q : Exit → Act → World → Prop} (hs : SR E γ N B nt F H.bs.get a w) (hf : ∀ id, H.n ≤ id → id < s.H.n → γ.loc id = none)
    (K : ∀ γ' a' w', SR E γ' N B nt s.F s.H.bs.get a' w' → Nxt γ H.bs.get w H.n γ' s.H.bs.get w' s.H.n → Q e.real a' w') : (Code.rangeFunc g ps assign body).wpIn (rd none) 0 E.P Q a w := by
  split at h
  · cases h
  · rename_i hnr
    rw [Bool.and_eq_true] at hnr
    split at h
    · rename_i gf cap hg
      split at h
      · rename_i e2 H2 h2
        simp only [Option.some.injEq, Prod.mk.injEq] at h
        obtain ⟨rfl, rfl⟩ := h
        have hexn : ∀ {c F H e s}, exC E call nt n c F H = some (e, s) → H.n ≤ s.H.n := fun q => exC_num hnum q
        have hrn : ∀ {xs H e H'}, roundA (exC E call nt n) nt F ps.toList assign body xs H = some (e, H') → H.n ≤ H'.n := fun q => roundA_num hexn q
        have hn2 : H.n + 1 ≤ H2.n := iterA_num hnum hrn h2
        have hid : γ.loc H.n = none := hf H.n (Nat.le_refl _) hn2
        have hv := opA_ok hs.fr hg
        generalize hgv : a.eval g = gv at hv
        cases hv
        rename_i a0 c' hv1 hv2
        have ha0 : a0 = #[] := by
          have := hv1.length
          simp at this
          exact Array.eq_empty_of_size_eq_zero this.symm
        subst ha0
        refine wpIn_rangeFunc (fun fn hfn => ?_)
        obtain ⟨W1, hW1⟩ : ∃ W1, (w.alloc (.deferred (some []))).alloc (.loop (mkRec fn a.tmps ps assign body w.heap.size .ready none)) = W1 := ⟨_, rfl⟩
        have hsz : W1.heap.size = w.heap.size + 2 := by rw [← hW1]; simp
        have hL1 : W1.heap[w.heap.size + 1]? = some (.loop (mkRec fn a.tmps ps assign body w.heap.size .ready none)) := by
          rw [← hW1]; have := World.alloc_heap_new (w.alloc (.deferred (some []))) (.loop (mkRec fn a.tmps ps assign body w.heap.size .ready none)); rwa [World.size_alloc] at this
        have hK1 : W1.heap[w.heap.size]? = some (.deferred (some [])) := by
          rw [← hW1]; exact (RowKit.Below.heap_alloc _ _ _ (by simp)).trans (World.alloc_heap_new w _)
        have hold : ∀ β, β < w.heap.size → W1.heap[β]? = w.heap[β]? := fun β hβ => by
          rw [← hW1]; exact (RowKit.Below.heap_alloc _ _ _ (by simp; omega)).trans (RowKit.Below.heap_alloc _ _ _ hβ)
        obtain ⟨hrel1, hnx1⟩ := bind_name (r := w.heap.size + 1) hs.rel hid hold hs.low (by omega) (by omega) (by rw [← hW1]; exact ⟨rfl, rfl, rfl⟩)
        have hoff0 : ∀ (D : Nat), w.heap.size ≤ D → ∀ id k l, H.bs.get id = some k → (γ.bind H.n (w.heap.size + 1, 0, 0)).loc id = some l → l.1 ≠ D := fun D hD id k l hk hl => by
          obtain ⟨β, ω, σ, hb⟩ := hs.rel.blk hk
          have hlt := (hs.rel.low hb.loc).2
          have := hnx1.le.loc hb.loc
          rw [this] at hl
          simp only [Option.some.injEq] at hl
          subst hl
          simp only at hlt ⊢
          omega
        have hlp1 : LoopAt (w.heap.size + 1) (mkRec fn a.tmps ps assign body w.heap.size) (γ.bind H.n (w.heap.size + 1, 0, 0)) H.bs.get W1 none := ⟨hL1, hoff0 _ (by omega)⟩
        have hro : RoundsOk E N γ (roundA (exC E call nt n) nt F ps.toList assign body) (w.heap.size + 1) (mkRec fn a.tmps ps assign body w.heap.size) := rounds_ok @ihC hnr.1 hnr.2 hs.fr hs.size (by have := hs.low; omega) hexn
        obtain ⟨hent, hcalls⟩ := iter_ok (w := W1) @hcall @hnum ok fok @hdraw @hro hrn h2 hrel1 (by have := hs.low; omega) hnx1.le (Cx.bind_same _ _ _) (VRs.mono hnx1.le hv2) hlp1 (free_rest hnx1 hn2 hf)
        refine ⟨w.heap.size + 1, [{ target := .collected w.heap.size, args := #[] }], W1, { target := .fn (.func gf) c', args := #[.func (.yield (w.heap.size + 1)) #[] #[]] }, W1, gf, #[.func (.yield (w.heap.size + 1)) #[] #[]] ++ c', W1, ?_, ?_, fun _ _ => trivial, ?_, fun q => (by cases q), ?_⟩
        · rw [← hW1]; exact run_enterLoop_outer _ _ _ _ _
        · simp only [resolve, hgv]
          simp [go_sem]
        · simp [invoke, go_sem, hent]
        · refine CallsIn.mono hcalls ?_
          rintro en w3 ⟨⟨v, rfl⟩, γ', hrel', hnb, hlp'⟩
          have hx : Nxt γ H.bs.get w H.n γ' H2.bs.get w3 H2.n := hnx1.thenBut (by omega) hnb
          have hK3 : w3.heap[w.heap.size]? = some (.deferred (some [])) := (hnb.keep _ (by omega) (by omega) (hoff0 _ (Nat.le_refl _))).trans hK1
          have hoff3 := off_next (hoff0 _ (Nat.le_refl _)) (by omega) hnb
          have hlt3 : w.heap.size + 1 < w3.heap.size := hlp'.lt
          obtain ⟨w4, hw4⟩ : ∃ w4, ∀ o, w3.putObj (w.heap.size + 1) o = w3.putObj (w.heap.size + 1) o := ⟨w3, fun _ => rfl⟩
          have hold3 := hs.defs.next (a' := a) hx rfl
          have hnm : ∀ d ∈ a.defers, d ≠ { target := .collected w.heap.size, args := #[] } ∧ d ≠ { target := .collected (w.heap.size + 1), args := #[] } := fun d hd => by
            rcases hs.defs.each d hd with ⟨g, cap, _, q⟩ | ⟨D', q1, q2, q3, _⟩
            · subst q; exact ⟨fun q => (by cases q), fun q => (by cases q)⟩
            have : D' < w.heap.size := (Array.getElem?_eq_some_iff.1 q3).1
            rw [q1]
            simp only [ne_eq, Deferred.mk.injEq, Target.collected.injEq, and_true]
            omega
          have fin : ∀ o, SR E γ' N B nt F H2.bs.get { a with defers := [{ target := .collected w.heap.size, args := #[] }] ++ a.defers } (w3.putObj (w.heap.size + 1) o) := fun o =>
            ⟨hrel'.putObj (by have := hs.low; omega) hlp'.off _, fun t => (hs.fr t).mono hx.le, by rw [World.putObj_size]; exact Nat.le_trans hs.low hx.size, hs.size,
              ⟨by rw [World.putObj_size]; exact hold3.base, by
                simp only [List.singleton_append]
                exact List.pairwise_cons.2 ⟨fun d' hm e => absurd e.symm (hnm _ hm).1, hs.defs.nd⟩, fun d hd => by
                simp only [List.singleton_append, List.mem_cons] at hd
                rcases hd with rfl | hd
                · exact .inr ⟨w.heap.size, rfl, hs.defs.base, (World.putObj_heap_other (by omega)).trans hK3, hoff3⟩
                · exact (hold3.putObj (D := w.heap.size + 1) (fun hm => (hnm _ hm).2 rfl) o).each d hd⟩⟩
          have hxf : ∀ o, Nxt γ H.bs.get w H.n γ' H2.bs.get (w3.putObj (w.heap.size + 1) o) H2.n := fun o => hx.putObj (by omega) o
          cases e2 with
          | normal => exact ⟨_, _, run_endLoop hlp'.at_ (by simp [pendOf, mkRec]), K γ' _ _ (fin _) (hxf _)⟩
          | ret => exact ⟨_, _, run_endLoop hlp'.at_ (by simp [pendOf, mkRec]), wpIn_ret (K γ' _ _ (fin _) (hxf _))⟩
          | exit id => exact ⟨_, _, run_endLoop hlp'.at_ (by simp [pendOf, mkRec]), wpIn_exit (K γ' _ _ (fin _) (hxf _))⟩
      · cases h
    · cases h

theorem exC_ok {call : CallF} (hcall : CallOk E call) (hnum : NumOk call) (ok : TyOk E) (fok : FnOk E) (hdraw : ∀ nt, DrawOk E nt call) : ∀ n, CodeOk E nt call n ∧ LoopOk E nt call n
  | 0 => ⟨fun h => by simp [exC] at h, fun h => by simp [exC] at h⟩
  | n + 1 => by
    obtain ⟨ihC, ihL⟩ := exC_ok @hcall @hnum ok fok @hdraw n
    have loop : LoopOk E nt call (n + 1) := by
      intro c F H e s h γ N B ρ a w Q hρ hs hf K
      simp only [exC] at h
      rw [roundsIn_succ]
      split at h
      · rename_i s1 h1
        have n1 := exC_num hnum h1
        have n2 := exC_num hnum h
        exact ihC h1 hρ hs (fun id a b => hf id a (by omega)) (fun γ' a' w' hs' hx => ihL h hρ hs' (free_rest hx n2 hf) (fun γ2 a2 w2 hs2 hx2 => K γ2 a2 w2 hs2 (hx.trans hx2)))
      · rename_i r hr
        cases e with
        | normal => exact absurd h (hr s)
        | exit id => exact ihC h hρ hs hf K
        | ret => exact ihC h hρ hs hf K
    refine ⟨?_, loop⟩
    intro c F H e s h γ N B ρ a w Q hρ hs hf K
    cases c with
    | skip =>
      simp only [exC, Option.some.injEq, Prod.mk.injEq] at h
      obtain ⟨rfl, rfl⟩ := h
      exact wpIn_skip (K γ a w hs (.refl _ _ _ _))
    | label l =>
      simp only [exC, Option.some.injEq, Prod.mk.injEq] at h
      obtain ⟨rfl, rfl⟩ := h
      exact wpIn_label (K γ a w hs (.refl _ _ _ _))
    | ret =>
      simp only [exC, Option.some.injEq, Prod.mk.injEq] at h
      obtain ⟨rfl, rfl⟩ := h
      exact wpIn_ret (K γ a w hs (.refl _ _ _ _))
    | exit id =>
      simp only [exC, Option.some.injEq, Prod.mk.injEq] at h
      obtain ⟨rfl, rfl⟩ := h
      exact wpIn_exit (K γ a w hs (.refl _ _ _ _))
    | region id ops draw =>
      simp only [exC] at h
      split at h
      · rename_i s1 h1
        simp only [Option.some.injEq, Prod.mk.injEq] at h
        obtain ⟨rfl, rfl⟩ := h
        cases draw with
        | true => exact hdraw nt h1 hs hf K
        | false =>
          simp only [exReg] at h1
          exact wpIn_region_list (exList_ok hcall hnum ok _ hρ h1 hs hf K)
      · cases h
    | seq x y =>
      simp only [exC] at h
      refine wpIn_seq ?_
      have hρ1 : ρ = none ∨ noRange x = true := hρ.imp id (fun q => by simp only [noRange, Bool.and_eq_true] at q; exact q.1)
      have hρ2 : ρ = none ∨ noRange y = true := hρ.imp id (fun q => by simp only [noRange, Bool.and_eq_true] at q; exact q.2)
      split at h
      · rename_i s1 h1
        have n1 := exC_num hnum h1
        have n2 := exC_num hnum h
        exact ihC h1 hρ1 hs (fun id a b => hf id a (by omega)) (fun γ' a' w' hs' hx => ihC h hρ2 hs' (free_rest hx n2 hf) (fun γ2 a2 w2 hs2 hx2 => K γ2 a2 w2 hs2 (hx.trans hx2)))
      · rename_i r hr
        cases e with
        | normal => exact absurd h (hr s)
        | exit id => exact ihC h hρ1 hs hf K
        | ret => exact ihC h hρ1 hs hf K
    | cond b x y =>
      simp only [exC] at h
      have hρ1 : ρ = none ∨ noRange x = true := hρ.imp id (fun q => by simp only [noRange, Bool.and_eq_true] at q; exact q.1)
      have hρ2 : ρ = none ∨ noRange y = true := hρ.imp id (fun q => by simp only [noRange, Bool.and_eq_true] at q; exact q.2)
      split at h
      · rename_i t hb
        have hp := opA_ok hs.fr hb
        generalize hbv : a.eval b = bv at hp
        cases hp
        split at h
        · exact wpIn_cond_true hbv (ihC h hρ1 hs hf K)
        · exact wpIn_cond_false hbv (ihC h hρ2 hs hf K)
      · cases h
    | block id x =>
      simp only [exC] at h
      refine wpIn_block ?_
      split at h
      · rename_i j s1 h1
        simp only [Option.some.injEq, Prod.mk.injEq] at h
        obtain ⟨h2, rfl⟩ := h
        refine ihC h1 hρ hs hf (fun γ' a' w' hs' hx => ?_)
        have := K γ' a' w' hs' hx
        simp only [Ext.real, Exit.inBlock]
        split at h2
        · rename_i hj; subst h2; rw [if_pos hj]; exact this
        · rename_i hj; subst h2; rw [if_neg hj]; exact this
      · rename_i r hr
        cases e with
        | exit id => exact absurd h (hr id s)
        | normal => exact ihC h hρ hs hf K
        | ret => exact ihC h hρ hs hf K
    | loop x => exact wpIn_loop_rounds (n + 1) (loop h hρ hs hf K)
    | scope x =>
      simp only [exC] at h
      refine wpIn_scope_straight (ihC h hρ hs hf (fun γ' a' w' hs' hx => ?_))
      have := K γ' a' w' hs' hx
      cases e <;> exact this
    | rangeFunc f p x y =>
      simp only [exC] at h
      obtain rfl : ρ = none := hρ.resolve_right (by simp [noRange])
      exact range_ok @hcall @hnum ok fok @hdraw @ihC h hs hf K
    | goto l => simp [exC] at h
    | refuse s => simp [exC] at h
end
end Go.Proofs.YteopodohghnokaaGreatDoor.Ex
end
section
namespace Go.Proofs.YteopodohghnokaaGreatDoor.Ex
open Go
set_option linter.unusedVariables false
set_option linter.unusedSimpArgs false

def HookOk (E : Env) : Prop := CallOk E E.hook

section
variable {E : Env} {γ : Cx} {N B nt : Nat} {w : World} {F : Fr} {a : Act}

theorem exF_ok (ok : TyOk E) (fok : FnOk E) (hk : HookOk E) (hkn : HookNum E) (hdraw : ∀ {call : CallF} {nt : Nat}, CallOk E call → NumOk call → DrawOk E nt call) {L : Nat} : ∀ n, CallOk E (exF E L n)
  | 0 => by intro h; simp [exF] at h
  | n + 1 => by
    intro h γ N w args' hrel hN hargs hf
    rename_i f args H H' v
    simp only [exF] at h
    split at h
    · rename_i r hr
      simp only [Option.some.injEq] at h
      subst h
      exact hk hr hrel hN hargs hf
    · split at h
      · cases h
      · rename_i i hi
        obtain ⟨fn, f1, f2, f3, f4, f5⟩ := fok.fn hi
        split at h
        · cases h
        · rename_i hlen
          have ih : CallOk E (exF E L n) := @exF_ok ok fok @hk @hkn @hdraw L n
          have ihn : NumOk (exF E L n) := @exF_num E @hkn L n
          unfold CallWp
          rw [callFunc_run f1 f2 f5]
          simp only
          -- the frame at the start
          have hs0 : SR E γ N w.heap.size i.ntmps (Tr.nil.put 0 args) H.bs.get { tmps := args'.toArray ++ Array.replicate (fn.ntmps - args'.toArray.size) undef, defers := [] } w :=
            ⟨hrel, frame_ok hargs _, hN, by have := hargs.length; simp only [Array.size_append, List.size_toArray, Array.size_replicate]; omega, .none (Nat.le_refl _) rfl⟩
          split at h
          · cases h
          · rename_i e s hc hne
            split at h
            · rename_i r hr
              simp only [Option.some.injEq, Prod.mk.injEq] at h
              obtain ⟨rfl, rfl⟩ := h
              refine callsIn_wide.1 (callsIn_of_wp_marks (n := 0) f1 f2 trivial ((exC_ok @ih @ihn ok fok (fun nt => @hdraw _ nt @ih @ihn) L).1 hne (ρ := none) (.inl rfl) hs0 hf (fun γ' a' w' hs' hx => ?_)))
              have hfin : LeavesInM Fence.wide 0 E.P fn a'.tmps (fun e w'' => ∃ v', e = .returned v' ∧ ∃ γ', VR γ' (oneOr r) v' ∧ Rel E γ' N s.H.bs.get w'' ∧ Nxt γ H.bs.get w H.n γ' s.H.bs.get w'' s.H.n) a'.defers .returning w' :=
                leaves_marks fok.quiet (T := fun w2 => Rel E γ' N s.H.bs.get w2 ∧ Nxt γ H.bs.get w H.n γ' s.H.bs.get w2 s.H.n) (fun {w2 D} o h1 h2 h3 => ⟨h3.1.putObj (Nat.le_trans hN h1) h2 _, h3.2.putObj h1 _⟩) a'.defers rfl hs'.defs ⟨hs'.rel, hx⟩ (fun w2 h2 => by
                  obtain ⟨v', g1, g2⟩ := results_run (a := a') ok h2.1 hs'.fr (fn := fn) (by rw [f4]; exact hr)
                  exact ⟨v', g1, v', rfl, γ', g2, h2.1, h2.2⟩)
              cases e with
              | normal => exact hfin
              | ret => exact hfin
              | exit id => exact (hc id rfl).elim
            · cases h
          · cases h
end
end Go.Proofs.YteopodohghnokaaGreatDoor.Ex
end
section
namespace Go.Proofs.YteopodohghnokaaGreatDoor.Ex
open Go
set_option linter.unusedVariables false
set_option linter.unusedSimpArgs false

theorem bit_shift (i j : Nat) : Nat.testBit (Nat.shiftLeft 1 i) j = decide (i = j) := by
  have : Nat.shiftLeft 1 i = 2 ^ i := by
    show 1 <<< i = 2 ^ i
    rw [Nat.shiftLeft_eq, Nat.one_mul]
  rw [this, Nat.testBit_two_pow]
theorem bit_bitOf (i j : Nat) : Nat.testBit (bitOf i) j = decide (i = j) := bit_shift i j
theorem bit_lor (a b j : Nat) : Nat.testBit (Nat.lor a b) j = (Nat.testBit a j || Nat.testBit b j) := Nat.testBit_or a b j
theorem bit_maskOf (acc : List Nat) (j : Nat) : ∀ l : List Nat, Nat.testBit (maskOf acc l) j = true ↔ ∃ p ∈ l, p = j ∨ Nat.testBit (acc.getD p 0) j = true
  | [] => by simp [maskOf]
  | p :: l => by
    simp only [maskOf, bit_lor, bit_bitOf, Bool.or_eq_true, decide_eq_true_eq, bit_maskOf acc j l, List.mem_cons, exists_eq_or_imp]
theorem bit_bitsOf (j : Nat) : ∀ l : List Nat, Nat.testBit (bitsOf l) j = true ↔ j ∈ l
  | [] => by simp [bitsOf]
  | p :: l => by
    simp only [bitsOf, bit_lor, bit_bitOf, Bool.or_eq_true, decide_eq_true_eq, bit_bitsOf j l, List.mem_cons]
    constructor
    · rintro (h | h)
      · exact .inl h.symm
      · exact .inr h
    · rintro (h | h)
      · exact .inl h.symm
      · exact .inr h
theorem within_ok {a b : Nat} (h : within a b = true) {j : Nat} (ha : Nat.testBit a j = true) : Nat.testBit b j = true := by
  have e : Nat.lor a b = b := Nat.eq_of_beq_eq_true h
  have := bit_lor a b j
  rw [e, ha] at this
  simpa using this

theorem masks_len : ∀ (l : List Oper) (acc : List Nat), (masks l acc).length = acc.length + l.length
  | [], acc => by simp [masks]
  | o :: l, acc => by simp [masks, masks_len l]; omega
theorem masks_take : ∀ (l : List Oper) (acc : List Nat) (k : Nat), k ≤ acc.length → (masks l acc).take k = acc.take k
  | [], acc, k, _ => by simp [masks]
  | o :: l, acc, k, h => by
    simp only [masks]
    rw [masks_take l _ k (by simp; omega), List.take_append_of_le_length h]
theorem masks_get : ∀ (l : List Oper) (acc : List Nat) (k : Nat) (o : Oper), l[k]? = some o → (masks l acc)[acc.length + k]? = some (maskOf ((masks l acc).take (acc.length + k)) (edgesOf o))
  | [], acc, k, o, h => by simp at h
  | o' :: l, acc, 0, o, h => by
    simp only [List.getElem?_cons_zero, Option.some.injEq] at h
    subst h
    simp only [masks, Nat.add_zero]
    have h1 := masks_take l (acc ++ [maskOf acc (edgesOf o')]) (acc.length + 1) (by simp)
    have h2 : (masks l (acc ++ [maskOf acc (edgesOf o')]))[acc.length]? = some (maskOf acc (edgesOf o')) := by
      rw [← List.getElem?_take_of_lt (show acc.length < acc.length + 1 by omega), h1]
      simp
    rw [h2, masks_take l _ acc.length (by simp)]
    simp
  | o' :: l, acc, k + 1, o, h => by
    simp only [masks]
    have := masks_get l (acc ++ [maskOf acc (edgesOf o')]) k o (by simpa using h)
    simp only [List.length_append, List.length_cons, List.length_nil] at this
    rw [show acc.length + (k + 1) = acc.length + (0 + 1) + k by omega]
    exact this

/-- Does an operation wait for another one? -/
def Anc (ops : Array Oper) (i j : Nat) : Prop := Nat.testBit ((masks ops.toList []).getD i 0) j = true
theorem anc_edge {ops : Array Oper} {i j : Nat} {o : Oper} (ho : ops[i]? = some o) (h : Anc ops i j) : ∃ p ∈ edgesOf o, p = j ∨ Anc ops p j := by
  unfold Anc at h
  have := masks_get ops.toList [] i o (by simpa using ho)
  simp only [List.length_nil, Nat.zero_add] at this
  rw [List.getD_eq_getElem?_getD, this, Option.getD_some, bit_maskOf] at h
  obtain ⟨p, hp, hq⟩ := h
  refine ⟨p, hp, ?_⟩
  rcases hq with rfl | hq
  · exact .inl rfl
  · right
    unfold Anc
    rw [List.getD_eq_getElem?_getD] at hq ⊢
    rw [List.getElem?_take] at hq
    split at hq
    · exact hq
    · simp at hq

/-- What the check of an order tells. -/
structure Ordered (ty : Tr TI) (ops : Array Oper) (l1 : List Nat) (i : Nat) (S : Nat → Prop) : Prop where
  op : ∃ o, ops[i]? = some o ∧ (∀ p ∈ edgesOf o, S p ∨ p ∈ l1) ∧ (isSpine ty o = true → ∀ j, S j ∨ j ∈ l1 → Anc ops i j)
  new : ¬ S i ∧ i ∉ l1
theorem chk_ok {ty : Tr TI} {ops : Array Oper} : ∀ (l : List Nat) (seen : Nat), chk ty ops (masks ops.toList []) l seen = true →
    (∀ l1 i l2, l = l1 ++ i :: l2 → Ordered ty ops l1 i (fun j => Nat.testBit seen j = true)) ∧ ∀ i, i < ops.size → Nat.testBit seen i = true ∨ i ∈ l
  | [], seen, h => by
    refine ⟨fun l1 i l2 e => by simp at e, fun i hi => .inl ?_⟩
    simp only [chk] at h
    have e : seen + 1 = 2 ^ ops.size := by
      have := Nat.eq_of_beq_eq_true h
      rw [this]
      show 1 <<< ops.size = 2 ^ ops.size
      rw [Nat.shiftLeft_eq, Nat.one_mul]
    have : seen = 2 ^ ops.size - 1 := by omega
    rw [this, Nat.testBit_two_pow_sub_one]
    simpa using hi
  | i :: l, seen, h => by
    simp only [chk] at h
    split at h
    · cases h
    · rename_i o ho
      simp only [Bool.and_eq_true, Bool.not_eq_true', Bool.or_eq_true] at h
      obtain ⟨⟨⟨h1, h2⟩, h3⟩, h4⟩ := h
      obtain ⟨ih1, ih2⟩ := chk_ok l _ h4
      have hb : ∀ j, Nat.testBit (Nat.lor seen (bitOf i)) j = true ↔ Nat.testBit seen j = true ∨ j = i := fun j => by
        rw [bit_lor, bit_bitOf, Bool.or_eq_true, decide_eq_true_eq]
        constructor
        · rintro (q | q)
          · exact .inl q
          · exact .inr q.symm
        · rintro (q | q)
          · exact .inl q
          · exact .inr q.symm
      refine ⟨fun l1 k l2 e => ?_, fun k hk => ?_⟩
      · cases l1 with
        | nil =>
          simp only [List.nil_append, List.cons.injEq] at e
          obtain ⟨rfl, rfl⟩ := e
          refine ⟨⟨o, ho, fun p hp => .inl (within_ok h1 ((bit_bitsOf p _).2 hp)), fun hs j hj => ?_⟩, by simpa using h2, by simp⟩
          rcases hj with hj | hj
          · rcases h3 with h3 | h3
            · rw [hs] at h3; cases h3
            · exact within_ok h3 hj
          · simp at hj
        | cons x l1 =>
          simp only [List.cons_append, List.cons.injEq] at e
          obtain ⟨rfl, rfl⟩ := e
          obtain ⟨⟨o', ho', k1, k2⟩, k3, k4⟩ := ih1 l1 k l2 rfl
          refine ⟨⟨o', ho', fun p hp => ?_, fun hs j hj => ?_⟩, fun q => k3 ((hb k).2 (.inl q)), ?_⟩
          · rcases k1 p hp with q | q
            · rcases (hb p).1 q with q | q
              · exact .inl q
              · exact .inr (by simp [q])
            · exact .inr (by simp [q])
          · refine k2 hs j ?_
            rcases hj with q | q
            · exact .inl ((hb j).2 (.inl q))
            · rcases List.mem_cons.1 q with q | q
              · exact .inl ((hb j).2 (.inr q))
              · exact .inr q
          · intro q
            rcases List.mem_cons.1 q with q | q
            · exact k3 ((hb k).2 (.inr q))
            · exact k4 q
      · rcases ih2 k hk with q | q
        · rcases (hb k).1 q with q | q
          · exact .inl q
          · exact .inr (by simp [q])
        · exact .inr (by simp [q])

theorem ordOne_ok {ms : List Nat} {j : Nat} {t : Tmp} : ∀ (l : List Oper) (k : Nat), ordOne ms j t l k = true → ∀ (i : Nat) o, l[i]? = some o → o.dst = some t → k + i = j ∨ Nat.testBit (ms.getD j 0) (k + i) = true ∨ Nat.testBit (ms.getD (k + i) 0) j = true
  | [], k, h, i, o, ho, hd => by simp at ho
  | o' :: l, k, h, i, o, ho, hd => by
    simp only [ordOne, Bool.and_eq_true] at h
    cases i with
    | zero =>
      simp only [List.getElem?_cons_zero, Option.some.injEq] at ho
      subst ho
      have h1 := h.1
      rw [hd] at h1
      simp only [Bool.or_eq_true, Bool.not_eq_true'] at h1
      simp only [Nat.add_zero]
      rcases h1 with ((q | q) | q) | q
      · have : Nat.beq t t = true := Nat.beq_refl t
        rw [this] at q; cases q
      · exact .inl (Nat.eq_of_beq_eq_true q)
      · exact .inr (.inl q)
      · exact .inr (.inr q)
    | succ i =>
      have := ordOne_ok l (k + 1) h.2 i o (by simpa using ho) hd
      rwa [show k + 1 + i = k + (i + 1) by omega] at this
theorem ordAll_ok {ops : Array Oper} {ms : List Nat} : ∀ (l : List Oper) (k : Nat), ordAll ops ms l k = true → ∀ (j : Nat) o, l[j]? = some o → ∀ t ∈ allReads ops o, ordOne ms (k + j) t ops.toList 0 = true
  | [], k, h, j, o, ho, t, ht => by simp at ho
  | o' :: l, k, h, j, o, ho, t, ht => by
    simp only [ordAll, Bool.and_eq_true] at h
    cases j with
    | zero =>
      simp only [List.getElem?_cons_zero, Option.some.injEq] at ho
      subst ho
      exact List.all_eq_true.1 h.1 t ht
    | succ j =>
      have := ordAll_ok l (k + 1) h.2 j o (by simpa using ho) t ht
      rwa [show k + 1 + j = k + (j + 1) by omega] at this

theorem nodupB_ok : ∀ (l : List Nat), nodupB l = true → l.Nodup
  | [], _ => List.nodup_nil
  | t :: l, h => by
    simp only [nodupB, Bool.and_eq_true, Bool.not_eq_true', List.any_eq_false] at h
    refine List.nodup_cons.2 ⟨fun hm => ?_, nodupB_ok l h.2⟩
    have := h.1 t hm
    exact this (Nat.beq_refl t)
theorem dsts_inj : ∀ (l : List Oper), (dstsOf l).Nodup → ∀ (i j : Nat) o o' t, l[i]? = some o → l[j]? = some o' → o.dst = some t → o'.dst = some t → i = j
  | [], _, i, j, o, o', t, h, _, _, _ => by simp at h
  | q :: l, h, i, j, o, o', t, hi, hj, hd, hd' => by
    have mem : ∀ (l : List Oper) (k : Nat) o, l[k]? = some o → o.dst = some t → t ∈ dstsOf l := by
      intro l
      induction l with
      | nil => intro k o h; simp at h
      | cons q l ih =>
        intro k o h hd
        cases k with
        | zero => simp at h; subst h; simp [dstsOf, hd]
        | succ k =>
          have := ih k o (by simpa using h) hd
          unfold dstsOf
          split
          · exact List.mem_cons_of_mem _ this
          · exact this
    have rest : (dstsOf l).Nodup := by
      unfold dstsOf at h
      split at h
      · exact (List.nodup_cons.1 h).2
      · exact h
    cases i with
    | zero =>
      simp only [List.getElem?_cons_zero, Option.some.injEq] at hi
      subst hi
      cases j with
      | zero => rfl
      | succ j =>
        exfalso
        have := mem l j o' (by simpa using hj) hd'
        simp only [dstsOf, hd] at h
        exact (List.nodup_cons.1 h).1 this
    | succ i =>
      cases j with
      | zero =>
        simp only [List.getElem?_cons_zero, Option.some.injEq] at hj
        subst hj
        exfalso
        have := mem l i o (by simpa using hi) hd
        simp only [dstsOf, hd'] at h
        exact (List.nodup_cons.1 h).1 this
      | succ j => rw [dsts_inj l rest i j o o' t (by simpa using hi) (by simpa using hj) hd hd']
end Go.Proofs.YteopodohghnokaaGreatDoor.Ex
end
section
namespace Go.Proofs.YteopodohghnokaaGreatDoor.Ex
open Go
set_option linter.unusedVariables false
set_option linter.unusedSimpArgs false
section
variable {E : Env} {F F' : Fr}

def Agree (F F' : Fr) (l : List Tmp) : Prop := ∀ t ∈ l, tmpA F t = tmpA F' t
theorem Agree.left {l r : List Tmp} (h : Agree F F' (l ++ r)) : Agree F F' l := fun t ht => h t (List.mem_append_left _ ht)
theorem Agree.right {l r : List Tmp} (h : Agree F F' (l ++ r)) : Agree F F' r := fun t ht => h t (List.mem_append_right _ ht)

theorem opA_reads {x : Operand} (h : Agree F F' (slotsOf1 x)) : opA F x = opA F' x := by
  cases x with
  | tmp t => simp only [opA]; rw [h t (by simp [slotsOf1])]
  | _ => rfl
theorem opsA_reads : ∀ {l : List Operand}, Agree F F' (slotsOf l) → opsA F l = opsA F' l
  | [], _ => rfl
  | x :: l, h => by
    simp only [slotsOf] at h
    simp only [opsA]
    rw [opA_reads h.left, opsA_reads h.right]
theorem partsA_reads : ∀ {l : List (Nat × Operand)}, Agree F F' (slotsP l) → partsA F l = partsA F' l
  | [], _ => rfl
  | (j, x) :: l, h => by
    simp only [slotsP] at h
    simp only [partsA]
    rw [opA_reads h.left, partsA_reads h.right]
theorem optA_reads {x : Option Operand} (h : Agree F F' (slotsO x)) : optA F x = optA F' x := by
  cases x with
  | none => rfl
  | some x => simp only [optA]; rw [opA_reads (by simpa [slotsO] using h)]
theorem two_reads {x y : Operand} (h : Agree F F' (slotsOf [x, y])) : opA F x = opA F' x ∧ opA F y = opA F' y := by
  simp only [slotsOf, List.append_nil] at h
  exact ⟨opA_reads h.left, opA_reads h.right⟩

theorem exOp_reads {o : Op} (h : Agree F F' (readsOf o)) (H : AH) : exOp E F o H = exOp E F' o H := by
  cases o <;> simp only [readsOf] at h <;> simp only [exOp] <;> try rfl
  case move => rw [opA_reads h]
  case assign => rw [opA_reads h]
  case pick a b c =>
    simp only [slotsOf, List.append_nil] at h
    unfold pickX
    rw [opA_reads h.left, opA_reads h.right.left, opA_reads h.right.right]
  case box => unfold boxX; rw [opA_reads h]
  case build => unfold buildX; rw [partsA_reads h]
  case buildSlice => unfold buildSliceX; rw [partsA_reads h]
  case load => unfold loadX; rw [opA_reads h]
  case store => unfold storeX; rw [(two_reads h).1, (two_reads h).2]
  case nilCheck => unfold nilCheckX; rw [opA_reads h]
  case binOp => unfold binX; rw [(two_reads h).1, (two_reads h).2]
  case unOp => unfold unX; rw [opA_reads h]
  case convert => unfold convX; rw [opA_reads h]
  case makeInterface => unfold ifaceX; rw [opA_reads h]
  case makeFunc f a b =>
    cases f <;> simp only
    unfold funcX
    rw [opsA_reads h.left, opsA_reads h.right]
  case makeSlice => unfold makeSliceX; rw [(two_reads h).1, (two_reads h).2]
  case slice =>
    unfold sliceX
    rw [opA_reads h.left, optA_reads h.right.left, optA_reads h.right.right.left, optA_reads h.right.right.right]
  case fieldAddr => unfold fieldAddrX; rw [opA_reads h]
  case field => unfold fieldX; rw [opA_reads h]
  case indexAddr => unfold indexAddrX; rw [(two_reads h).1, (two_reads h).2]
  case index => unfold indexX; rw [(two_reads h).1, (two_reads h).2]
  case typeAssert => unfold assertX; rw [opA_reads h]
  case extract => unfold extractX; rw [opA_reads h]
  case call c =>
    unfold callX
    rw [opsA_reads h.left]
    split
    · rfl
    · cases hc : c.callee with
      | value f =>
        have h2 := h.right
        rw [hc] at h2
        simp only
        rw [opA_reads h2]
      | invoke r m => rfl
      | builtin b => rfl

theorem wantedA_reads {ops : Array Oper} {o : Oper} (h : Agree F F' (guardReads ops o)) : wantedA ops F o = wantedA ops F' o := by
  unfold wantedA
  unfold guardReads at h
  cases hg : o.guard with
  | none => rfl
  | some q =>
    obtain ⟨j, want⟩ := q
    simp only [hg] at h ⊢
    cases hj : ops[j]? with
    | none => rfl
    | some g =>
      simp only [hj] at h ⊢
      cases hd : g.dst with
      | none => rfl
      | some t =>
        simp only [hd] at h ⊢
        rw [h t (by simp)]

theorem pure_kind {o : Op} (hk : okOf E.ty o = .pure) {H : AH} {r : R} (h : exOp E F o H = some r) : ∃ v, r = .val v H ∧ ∀ H' : AH, exOp E F o H' = some (.val v H') := by
  have hv : ∀ {x : Option AV}, vR H x = some r → ∃ v, r = .val v H ∧ ∀ H' : AH, vR H' x = some (.val v H') := fun e => by
    obtain ⟨v, rfl, rfl⟩ := vR_some e
    exact ⟨v, rfl, fun _ => rfl⟩
  have he : ∀ {v : AV}, some (R.val v H) = some r → r = .val v H := fun e => by simp only [Option.some.injEq] at e; exact e.symm
  cases o <;> simp only [okOf] at hk <;> (try (cases hk; done)) <;> simp only [exOp] at h ⊢
  case move => exact hv h
  case assign => exact hv h
  case convert src d x =>
    split at hk
    · rename_i hi
      unfold convX at h ⊢
      cases hx : opA F x with
      | none => rw [hx] at h; cases h
      | some a =>
        rw [hx] at h
        simp only at h ⊢
        unfold convA at h ⊢
        unfold isIntTy at hi
        cases hs : E.ty.get src with
        | none => rw [hs] at h; cases h
        | some si =>
          rw [hs] at h
          simp only at h ⊢
          cases hd : E.ty.get d with
          | none => rw [hd] at h; cases h
          | some di =>
            rw [hd] at h hi
            simp only at h hi ⊢
            split at hi
            · rename_i k hk
              rw [hk] at h ⊢
              simp only at h ⊢
              unfold convI at h ⊢
              split at h
              · exact ⟨_, he h, fun H' => rfl⟩
              · split at h
                · exact ⟨_, he h, fun H' => rfl⟩
                · cases h
              · cases h
            · cases hi
    · cases hk
  case pick =>
    unfold pickX at h ⊢
    split at h
    · split at h
      · exact hv h
      · exact hv h
    · cases h
  case build =>
    unfold buildX fillR at h ⊢
    split at h
    · split at h
      · split at h
        · split at h
          · rename_i hc
            simp only [if_pos hc]
            split at h
            · split at h
              · exact ⟨_, he h, fun _ => rfl⟩
              · cases h
            · cases h
          · cases h
        · split at h
          · split at h
            · split at h
              · exact ⟨_, he h, fun _ => rfl⟩
              · cases h
            · cases h
          · cases h
        · cases h
      · cases h
    · cases h
  case nilCheck =>
    unfold nilCheckX at h ⊢
    split at h
    · split at h <;> first | exact ⟨_, he h, fun _ => rfl⟩ | cases h
    · cases h
  case binOp =>
    unfold binX at h ⊢
    split at h
    · split at h
      · split at h
        · exact ⟨_, he h, fun _ => rfl⟩
        · exact hv h
      · cases h
    · cases h
  case unOp =>
    unfold unX at h ⊢
    split at h
    · exact hv h
    · cases h
  case makeInterface =>
    unfold ifaceX at h ⊢
    split at h
    · split at h
      · split at h
        · cases h
        · exact ⟨_, he h, fun _ => rfl⟩
      · cases h
    · cases h
  case makeFunc f a b =>
    cases f <;> simp only at h ⊢ <;> try (cases h; done)
    unfold funcX at h ⊢
    split at h
    · split at h
      · exact ⟨_, he h, fun _ => rfl⟩
      · cases h
    · cases h
  case slice =>
    unfold sliceX at h ⊢
    split at h
    · split at h
      · exact hv h
      · cases h
    · cases h
  case fieldAddr =>
    unfold fieldAddrX at h ⊢
    split at h
    · split at h
      · exact ⟨_, he h, fun _ => rfl⟩
      · cases h
    · cases h
  case field =>
    unfold fieldX at h ⊢
    split at h
    · split at h
      · exact hv h
      · cases h
    · cases h
  case indexAddr =>
    unfold indexAddrX at h ⊢
    split at h
    · split at h
      · split at h
        · split at h
          · rename_i hc
            simp only [if_pos hc]
            exact ⟨_, he h, fun _ => rfl⟩
          · cases h
        · cases h
      · split at h
        · split at h
          · rename_i hc
            simp only [if_pos hc]
            exact ⟨_, he h, fun _ => rfl⟩
          · cases h
        · cases h
      · cases h
    · cases h
  case index =>
    unfold indexX at h ⊢
    split at h
    · split at h
      · split at h
        · exact ⟨_, he h, fun _ => rfl⟩
        · cases h
      · split at h
        · split at h
          · rename_i hc
            simp only [if_pos hc]
            exact hv h
          · cases h
        · cases h
      · cases h
    · cases h
  case typeAssert =>
    unfold assertX at h ⊢
    split at h
    · split at h
      · split at h
        · cases h
        · split at h
          · rename_i hc
            simp only [if_pos hc]
            exact ⟨_, he h, fun _ => rfl⟩
          · cases h
      · cases h
    · cases h
  case extract =>
    unfold extractX at h ⊢
    split at h
    · exact hv h
    · cases h
  case call c =>
    unfold callX at h ⊢
    split at hk <;> (try (cases hk; done))
    all_goals
      rename_i hc
      split at h
      · cases h
      · rename_i xs hx
        rw [hc] at h
        simp only [builtinX] at h
        split at h <;> try (cases h; done)
        first
          | (split at h
             · refine ⟨_, he h, fun H' => ?_⟩
               simp_all [builtinX]
             · cases h)
          | (obtain ⟨v, hv1, hv2⟩ := hv h
             refine ⟨v, hv1, fun H' => ?_⟩
             have := hv2 H'
             simp_all [builtinX])

theorem load_kind {o : Op} {t : TypeId} {a : Operand} (hk : okOf E.ty o = .load t a) : o = .load t a := by
  cases o <;> simp only [okOf] at hk <;> try (cases hk; done)
  case load => simp only [OK.load.injEq] at hk; rw [hk.1, hk.2]
  all_goals (split at hk <;> cases hk)

theorem alloc_kind {o : Op} (hk : okOf E.ty o = .alloc) {H : AH} {r : R} (h : exOp E F o H = some r) :
    ∃ v l H1, r = .val v H1 ∧ H.new l = some H1 ∧ ∀ H' : AH, H'.n = H.n → ∃ H1', H'.new l = some H1' ∧ exOp E F o H' = some (.val v H1') := by
  have key : ∀ {l : List AV} {v : AH → AV}, (∀ H' : AH, H'.n = H.n → v H' = v H) → newR H l (v H) = some r → ∃ v0 l0 H1, r = .val v0 H1 ∧ H.new l0 = some H1 ∧ ∀ H' : AH, H'.n = H.n → ∃ H1', H'.new l0 = some H1' ∧ newR H' l (v H') = some (.val v0 H1') := fun {l v} hveq e => by
    obtain ⟨H1, e1, rfl⟩ := newR_some e
    refine ⟨_, l, H1, rfl, e1, fun H' hn => ?_⟩
    have hall := (AH.new_ok e1).2.2
    refine ⟨⟨H'.n + 1, H'.bs.set H'.n ⟨l.length, Tr.nil.put 0 l⟩⟩, by unfold AH.new; rw [if_pos hall], ?_⟩
    unfold newR AH.new
    rw [if_pos hall, hveq H' hn]
  cases o <;> simp only [okOf] at hk <;> (try (cases hk; done)) <;> (try (split at hk <;> cases hk)) <;> simp only [exOp] at h ⊢
  case alloc t =>
    unfold allocX at h ⊢
    split at h
    · split at h
      · exact key (v := fun H => .ptr H.n 0) (fun H' e => by simp [e]) h
      · cases h
    · cases h
  case box =>
    unfold boxX at h ⊢
    split at h
    · exact key (v := fun H => .ptr H.n 0) (fun H' e => by simp [e]) h
    · cases h
  case buildSlice t len ps =>
    unfold buildSliceX at h ⊢
    split at h
    · split at h
      · split at h
        · split at h
          · split at h
            · rename_i hc
              simp only [if_pos hc]
              split at h
              · split at h
                · exact key (v := fun H => .slice H.n 0 len _ true) (fun H' e => by simp [e]) h
                · cases h
              · cases h
            · cases h
          · cases h
        · cases h
      · cases h
    · cases h
  case makeSlice t l c =>
    unfold makeSliceX at h ⊢
    split at h
    · split at h
      · split at h
        · split at h
          · split at h
            · rename_i hc
              simp only [if_pos hc]
              exact key (v := fun H => .slice H.n 0 _ _ true) (fun H' e => by simp [e]) h
            · cases h
          · cases h
        · cases h
      · cases h
    · cases h
end
end Go.Proofs.YteopodohghnokaaGreatDoor.Ex
end
section
namespace Go.Proofs.YteopodohghnokaaGreatDoor.Ex
open Go
set_option linter.unusedVariables false
set_option linter.unusedSimpArgs false

structure DS where
  F : Fr
  H : AH
  past : List AH
  ini : Tr Blk
structure Ent where
  i : Nat
  d : Nat
  st : DS
  s : St

/-- The block that an operation of its own makes. -/
def newOf (ty : Tr TI) (ops : Array Oper) (e : Ent) : Option (Nat × Blk) :=
  match ops[e.i]? with
  | some o => match okOf ty o.op with
    | .alloc => match wantedA ops e.st.F o with
      | some true => (e.s.H.bs.get e.st.H.n).map fun k => (e.st.H.n, k)
      | _ => none
    | _ => none
  | none => none
/-- How the run stands behind an operation. -/
def Ent.after (ty : Tr TI) (ops : Array Oper) (o : Oper) (e : Ent) : DS :=
  ⟨e.s.F, e.s.H, match okOf ty o.op with
    | .spine => e.s.H :: e.st.past
    | _ => e.st.past, match newOf ty ops e with
    | some (n, k) => e.st.ini.set n k
    | none => e.st.ini⟩

section
variable (E : Env) (call : CallF) (nt : Nat) (ops : Array Oper)
structure Good (e : Ent) (o : Oper) : Prop where
  op : ops[e.i]? = some o
  run : exOne E call nt ops o e.st.F e.st.H = some e.s
  ld : ∀ t a, okOf E.ty o.op = .load t a → e.d ≠ 0 → wantedA ops e.st.F o = some true → ∃ p v, opA e.st.F a = some p ∧ loadT E t p e.st.H = some v ∧ wasSo E t p v e.st.ini (e.st.past.tail.take e.d) = true
def Run : List Ent → DS → DS → Prop
  | [], x, y => x = y
  | e :: l, x, y => e.st = x ∧ ∃ o, Good E call nt ops e o ∧ Run l (e.after E.ty ops o) y
end

section
variable {E : Env} {call : CallF} {nt : Nat} {ops : Array Oper}
theorem Run.append : ∀ {l1 l2 : List Ent} {x y : DS}, Run E call nt ops (l1 ++ l2) x y → ∃ z, Run E call nt ops l1 x z ∧ Run E call nt ops l2 z y
  | [], l2, x, y, h => ⟨x, rfl, h⟩
  | e :: l1, l2, x, y, ⟨h1, o, h2, h3⟩ => by
    obtain ⟨z, a, b⟩ := Run.append h3
    exact ⟨z, ⟨h1, o, h2, a⟩, b⟩
theorem Run.join : ∀ {l1 l2 : List Ent} {x z y : DS}, Run E call nt ops l1 x z → Run E call nt ops l2 z y → Run E call nt ops (l1 ++ l2) x y
  | [], l2, x, z, y, h, g => by rw [show x = z from h]; exact g
  | e :: l1, l2, x, z, y, ⟨h1, o, h2, h3⟩, g => ⟨h1, o, h2, Run.join h3 g⟩

/-- The runner's own pass writes such a log. -/
theorem exDraw_run : ∀ {L : List (Nat × Nat)} {F : Fr} {H : AH} {past : List AH} {ini : Tr Blk} {s : St}, exDraw E call nt ops L F H past ini = some s →
    ∃ log y, log.map (fun e => (e.i, e.d)) = L ∧ Run E call nt ops log ⟨F, H, past, ini⟩ y ∧ y.F = s.F ∧ y.H = s.H
  | [], F, H, past, ini, s, h => by
    simp only [exDraw, Option.some.injEq] at h
    subst h
    exact ⟨[], _, rfl, rfl, rfl, rfl⟩
  | (i, d) :: L, F, H, past, ini, s, h => by
    simp only [exDraw] at h
    split at h
    · cases h
    · rename_i o ho
      split at h
      · cases h
      · rename_i s1 h1
        have fin : ∀ {past' ini'}, exDraw E call nt ops L s1.F s1.H past' ini' = some s → (Ent.after E.ty ops o ⟨i, d, ⟨F, H, past, ini⟩, s1⟩) = ⟨s1.F, s1.H, past', ini'⟩ →
            (∀ t a, okOf E.ty o.op = .load t a → d ≠ 0 → wantedA ops F o = some true → ∃ p v, opA F a = some p ∧ loadT E t p H = some v ∧ wasSo E t p v ini (past.tail.take d) = true) →
            ∃ log y, log.map (fun e => (e.i, e.d)) = (i, d) :: L ∧ Run E call nt ops log ⟨F, H, past, ini⟩ y ∧ y.F = s.F ∧ y.H = s.H := fun {past' ini'} hr ha hl => by
          obtain ⟨log, y, a, b, c, e⟩ := exDraw_run hr
          refine ⟨⟨i, d, ⟨F, H, past, ini⟩, s1⟩ :: log, y, by simp [a], ⟨rfl, o, ⟨ho, h1, hl⟩, ?_⟩, c, e⟩
          rw [ha]
          exact b
        split at h
        · rename_i hk
          exact fin h (by simp [Ent.after, newOf, ho, hk]) (fun t a q => by rw [hk] at q; cases q)
        · rename_i hk
          exact fin h (by simp [Ent.after, newOf, ho, hk]) (fun t a q => by rw [hk] at q; cases q)
        · rename_i hk
          refine fin h ?_ (fun t a q => by rw [hk] at q; cases q)
          simp only [Ent.after, newOf, ho, hk]
          cases wantedA ops F o with
          | none => rfl
          | some b => cases b with
            | false => rfl
            | true => cases s1.H.bs.get H.n <;> rfl
        · rename_i t a hk
          split at h
          · exact fin h (by simp [Ent.after, newOf, ho, hk]) (fun t a q hd => absurd rfl hd)
          · rename_i d' hd'
            split at h
            · rename_i hc
              refine fin h (by simp [Ent.after, newOf, ho, hk]) (fun t' a' q hd hw => ?_)
              rw [hk] at q
              simp only [OK.load.injEq] at q
              obtain ⟨rfl, rfl⟩ := q
              rw [hw] at hc
              simp only at hc
              split at hc
              · rename_i p hp
                split at hc
                · rename_i v hv
                  exact ⟨p, v, hp, hv, hc⟩
                · cases hc
              · cases hc
            · cases h

/-! ### What a run leaves -/
def dstOf (ops : Array Oper) (i : Nat) : Option Tmp := (ops[i]?).bind (·.dst)
def spineE (ty : Tr TI) (ops : Array Oper) (e : Ent) : Bool := spineAt ty ops e.i

theorem spine_iff {ty : Tr TI} {o : Oper} : isSpine ty o = true ↔ okOf ty o.op = .spine := by
  unfold isSpine
  cases okOf ty o.op <;> simp

/-- The slot that is written, and what into. -/
theorem good_frame {e : Ent} {o : Oper} (h : Good E call nt ops e o) : ∃ v, putA nt e.st.F o.dst v = some e.s.F ∧ ∀ t, tmpA e.s.F t = if o.dst = some t then v else tmpA e.st.F t := by
  have key : ∀ {v : AV} {F' : Fr}, putA nt e.st.F o.dst v = some F' → F' = e.s.F → ∃ v, putA nt e.st.F o.dst v = some e.s.F ∧ ∀ t, tmpA e.s.F t = if o.dst = some t then v else tmpA e.st.F t := fun {v F'} hp hF => by
    subst hF
    refine ⟨v, hp, fun t => ?_⟩
    unfold putA at hp
    cases hd : o.dst with
    | none => simp only [hd, Option.some.injEq] at hp; rw [← hp]; simp
    | some u =>
      simp only [hd] at hp
      split at hp
      · simp only [Option.some.injEq] at hp
        rw [← hp, tmpA_set]
        by_cases q : u = t
        · subst q; simp
        · rw [if_neg q, if_neg (by simpa using q)]
      · cases hp
  have hr := h.run
  unfold exOne at hr
  split at hr
  · split at hr
    · rename_i r _
      unfold finA at hr
      cases r with
      | val v H' =>
        simp only at hr
        split at hr
        · rename_i F' hp; simp only [Option.some.injEq] at hr; exact key hp (by rw [← hr])
        · cases hr
      | skip H' =>
        simp only at hr
        split at hr
        · rename_i F' hp; simp only [Option.some.injEq] at hr; exact key hp (by rw [← hr])
        · cases hr
      | call f args H' =>
        simp only at hr
        split at hr
        · split at hr
          · rename_i F' hp; simp only [Option.some.injEq] at hr; exact key hp (by rw [← hr])
          · cases hr
        · cases hr
    · cases hr
  · split at hr
    · rename_i F' hp; simp only [Option.some.injEq] at hr; exact key hp (by rw [← hr])
    · cases hr
  · cases hr

theorem run_frame : ∀ {l : List Ent} {x y : DS}, Run E call nt ops l x y → ∀ t, (∀ e ∈ l, dstOf ops e.i ≠ some t) → tmpA y.F t = tmpA x.F t
  | [], x, y, h, t, _ => by rw [show x = y from h]
  | e :: l, x, y, ⟨h1, o, h2, h3⟩, t, hn => by
    rw [run_frame h3 t (fun e' he' => hn e' (List.mem_cons_of_mem _ he'))]
    obtain ⟨v, _, hv⟩ := good_frame h2
    have := hv t
    have hd := hn e (List.mem_cons_self ..)
    unfold dstOf at hd
    rw [h2.op] at hd
    simp only [Option.bind_some, ne_eq] at hd
    rw [if_neg hd] at this
    rw [← h1]
    exact this

theorem run_num (hnum : NumOk call) : ∀ {l : List Ent} {x y : DS}, Run E call nt ops l x y → x.H.n ≤ y.H.n
  | [], x, y, h => by rw [show x = y from h]; exact Nat.le_refl _
  | e :: l, x, y, ⟨h1, o, h2, h3⟩ => by
    have a := exOne_num hnum h2.run
    have b := run_num hnum h3
    rw [← h1]
    exact Nat.le_trans a b

/-- An operation that is none of those that act leaves memory alone, or makes one block. -/
theorem quiet_heap {e : Ent} {o : Oper} (h : Good E call nt ops e o) (hs : isSpine E.ty o = false) :
    (newOf E.ty ops e = none ∧ e.s.H = e.st.H) ∨ ∃ k v l, newOf E.ty ops e = some (e.st.H.n, k) ∧ okOf E.ty o.op = .alloc ∧ wantedA ops e.st.F o = some true ∧ e.s.H.n = e.st.H.n + 1 ∧ e.s.H.bs.get = hset e.st.H.bs.get e.st.H.n k ∧
      k = ⟨l.length, Tr.nil.put 0 l⟩ ∧ e.st.H.new l = some e.s.H ∧ putA nt e.st.F o.dst v = some e.s.F ∧ ∀ H' : AH, H'.n = e.st.H.n → ∃ H1, H'.new l = some H1 ∧ exOp E e.st.F o.op H' = some (.val v H1) := by
  have hr := h.run
  unfold exOne at hr
  have hnone : okOf E.ty o.op ≠ .alloc → newOf E.ty ops e = none := fun hk => by
    unfold newOf
    rw [h.op]
    cases hq : okOf E.ty o.op <;> simp_all
  split at hr
  · rename_i hw
    split at hr
    · rename_i r hx
      have noalloc : (∃ v, r = .val v e.st.H) → okOf E.ty o.op ≠ .alloc → newOf E.ty ops e = none ∧ e.s.H = e.st.H := fun ⟨v, hv⟩ hk => by
        subst hv
        simp only [finA] at hr
        split at hr
        · simp only [Option.some.injEq] at hr; exact ⟨hnone hk, by rw [← hr]⟩
        · cases hr
      cases hk : okOf E.ty o.op with
      | pure =>
        obtain ⟨v, hv, _⟩ := pure_kind hk hx
        exact .inl (noalloc ⟨v, hv⟩ (by rw [hk]; simp))
      | load t a =>
        have := load_kind hk
        rw [this] at hx
        simp only [exOp, loadX] at hx
        split at hx
        · obtain ⟨v, _, hv⟩ := vR_some hx
          exact .inl (noalloc ⟨v, hv⟩ (by rw [hk]; simp))
        · cases hx
      | spine => rw [spine_iff.2 hk] at hs; cases hs
      | alloc =>
        obtain ⟨v, l, H1, rfl, hn, hall⟩ := alloc_kind hk hx
        simp only [finA] at hr
        split at hr
        · rename_i F' hp
          simp only [Option.some.injEq] at hr
          obtain ⟨g1, g2, g3⟩ := AH.new_ok hn
          have e1 : e.s.H = H1 := by rw [← hr]
          have e2 : e.s.F = F' := by rw [← hr]
          right
          refine ⟨⟨l.length, Tr.nil.put 0 l⟩, v, l, ?_, rfl, hw, by rw [e1]; exact g1, by rw [e1]; exact g2, rfl, by rw [e1]; exact hn, by rw [e2]; exact hp, hall⟩
          unfold newOf
          rw [h.op]
          simp only [hk, hw, e1, g2]
          simp [hset]
        · cases hr
    · cases hr
  · rename_i hw
    split at hr
    · simp only [Option.some.injEq] at hr
      refine .inl ⟨?_, by rw [← hr]⟩
      unfold newOf
      rw [h.op]
      simp only
      split
      · rw [hw]
      · rfl
    · cases hr
  · cases hr

theorem newOf_spine {e : Ent} {o : Oper} (h : Good E call nt ops e o) (hs : isSpine E.ty o = true) : newOf E.ty ops e = none := by
  unfold newOf
  rw [h.op]
  simp only [spine_iff.1 hs]

/-- The names that operations of their own give lie within the run's. -/
theorem run_ids (hnum : NumOk call) : ∀ {l : List Ent} {x y : DS}, Run E call nt ops l x y → ∀ e ∈ l, ∀ n k, newOf E.ty ops e = some (n, k) → x.H.n ≤ n ∧ n < y.H.n
  | [], x, y, h, e, he, n, k, hn => by simp at he
  | e0 :: l, x, y, ⟨h1, o, h2, h3⟩, e, he, n, k, hn => by
    have b := run_num hnum h3
    have a := exOne_num hnum h2.run
    rcases List.mem_cons.1 he with rfl | he
    · have hs : isSpine E.ty o = false := by
        cases q : isSpine E.ty o with
        | false => rfl
        | true => rw [newOf_spine h2 q] at hn; cases hn
      rcases quiet_heap h2 hs with ⟨q, _⟩ | ⟨k', v, l', q1, _, _, q2, _⟩
      · rw [q] at hn; cases hn
      · rw [q1] at hn
        simp only [Option.some.injEq, Prod.mk.injEq] at hn
        obtain ⟨rfl, rfl⟩ := hn
        rw [← h1]
        refine ⟨Nat.le_refl _, ?_⟩
        have : (e.after E.ty ops o).H.n = e.s.H.n := rfl
        omega
    · have := run_ids hnum h3 e he n k hn
      have q : (e0.after E.ty ops o).H.n = e0.s.H.n := rfl
      rw [← h1]
      omega
/-- A name is given once. -/
theorem run_once (hnum : NumOk call) : ∀ {l : List Ent} {x y : DS}, Run E call nt ops l x y → ∀ e ∈ l, ∀ e' ∈ l, ∀ n k k', newOf E.ty ops e = some (n, k) → newOf E.ty ops e' = some (n, k') → k = k'
  | [], x, y, h, e, he, _, _, _, _, _, _, _ => by simp at he
  | e0 :: l, x, y, ⟨h1, o, h2, h3⟩, e, he, e', he', n, k, k', hn, hn' => by
    have lt : ∀ {k0}, newOf E.ty ops e0 = some (n, k0) → n < (e0.after E.ty ops o).H.n := fun {k0} q => by
      have hs : isSpine E.ty o = false := by
        cases p : isSpine E.ty o with
        | false => rfl
        | true => rw [newOf_spine h2 p] at q; cases q
      rcases quiet_heap h2 hs with ⟨p, _⟩ | ⟨k1, v, l', p1, _, _, p2, _⟩
      · rw [p] at q; cases q
      · rw [p1] at q
        simp only [Option.some.injEq, Prod.mk.injEq] at q
        have : (e0.after E.ty ops o).H.n = e0.s.H.n := rfl
        omega
    have hh := List.mem_cons.1 he
    have hh' := List.mem_cons.1 he'
    clear he he'
    rcases hh with he | he
    · subst he
      rcases hh' with he' | he'
      · subst he'; rw [hn] at hn'; simpa using hn'
      · have := lt hn; have := (run_ids hnum h3 e' he' n k' hn').1; omega
    · rcases hh' with he' | he'
      · subst he'; have := lt hn'; have := (run_ids hnum h3 e he n k hn).1; omega
      · exact run_once hnum h3 e he e' he' n k k' hn hn'

/-- Over a stretch in which nothing acts, memory has but what was made there. -/
theorem run_quiet (hnum : NumOk call) : ∀ {l : List Ent} {x y : DS}, Run E call nt ops l x y → (∀ e ∈ l, spineE E.ty ops e = false) → ∀ id,
    (∀ e ∈ l, ∀ k, newOf E.ty ops e = some (id, k) → y.H.bs.get id = some k) ∧ ((∀ e ∈ l, ∀ k, newOf E.ty ops e ≠ some (id, k)) → y.H.bs.get id = x.H.bs.get id)
  | [], x, y, h, _, id => by rw [show x = y from h]; exact ⟨fun e he => by simp at he, fun _ => rfl⟩
  | e0 :: l, x, y, ⟨h1, o, h2, h3⟩, hq, id => by
    have hs : isSpine E.ty o = false := by
      have := hq e0 (List.mem_cons_self ..)
      unfold spineE spineAt at this
      rw [h2.op] at this
      exact this
    obtain ⟨ih1, ih2⟩ := run_quiet hnum h3 (fun e he => hq e (List.mem_cons_of_mem _ he)) id
    have step : (e0.after E.ty ops o).H.bs.get id = (match newOf E.ty ops e0 with
        | some (n, k) => if n = id then some k else x.H.bs.get id
        | none => x.H.bs.get id) := by
      rw [← h1]
      rcases quiet_heap h2 hs with ⟨q, p⟩ | ⟨k', v, l', q1, _, _, q2, q3, _⟩
      · rw [q]
        show e0.s.H.bs.get id = _
        rw [p]
      · rw [q1]
        show e0.s.H.bs.get id = _
        rw [q3]
        rfl
    refine ⟨fun e he k hn => ?_, fun hno => ?_⟩
    · rcases List.mem_cons.1 he with rfl | he
      · by_cases hlater : ∀ e' ∈ l, ∀ k', newOf E.ty ops e' ≠ some (id, k')
        · rw [ih2 hlater, step, hn]; simp
        · exfalso
          apply hlater
          intro e' he' k' hn'
          have a := (run_ids hnum h3 e' he' id k' hn').1
          rcases quiet_heap h2 hs with ⟨q, _⟩ | ⟨k1, v, l', q1, _, _, q2, _⟩
          · rw [q] at hn; cases hn
          · rw [q1] at hn
            simp only [Option.some.injEq, Prod.mk.injEq] at hn
            have : (e.after E.ty ops o).H.n = e.s.H.n := rfl
            omega
      · exact ih1 e he k hn
    · rw [ih2 (fun e he => hno e (List.mem_cons_of_mem _ he)), step]
      have := hno e0 (List.mem_cons_self ..)
      cases hn : newOf E.ty ops e0 with
      | none => rfl
      | some q =>
        obtain ⟨n, k⟩ := q
        simp only
        rw [if_neg]
        rintro rfl
        exact this k hn

/-- What was made is remembered. -/
theorem run_ini : ∀ {l : List Ent} {x y : DS}, Run E call nt ops l x y → ∀ id k, y.ini.get id = some k → x.ini.get id = some k ∨ ∃ e ∈ l, newOf E.ty ops e = some (id, k)
  | [], x, y, h, id, k, hk => by rw [show x = y from h]; exact .inl hk
  | e0 :: l, x, y, ⟨h1, o, h2, h3⟩, id, k, hk => by
    rcases run_ini h3 id k hk with q | ⟨e, he, q⟩
    · subst h1
      unfold Ent.after at q
      simp only at q
      split at q
      · rename_i n k1 hn
        rw [Tr.get_set] at q
        split at q
        · rename_i hid
          simp only [Option.some.injEq] at q
          subst hid q
          exact .inr ⟨e0, List.mem_cons_self .., hn⟩
        · exact .inl q
      · exact .inl q
    · exact .inr ⟨e, List.mem_cons_of_mem _ he, q⟩

/-- The heaps behind all that acts, the last one first. -/
def spR (ty : Tr TI) (ops : Array Oper) : List Ent → List AH
  | [] => []
  | e :: l => spR ty ops l ++ (match spineE ty ops e with
    | true => [e.s.H]
    | false => [])
theorem run_past : ∀ {l : List Ent} {x y : DS}, Run E call nt ops l x y → y.past = spR E.ty ops l ++ x.past
  | [], x, y, h => by rw [show x = y from h]; rfl
  | e0 :: l, x, y, ⟨h1, o, h2, h3⟩ => by
    rw [run_past h3]
    simp only [spR, List.append_assoc]
    congr 1
    subst h1
    unfold spineE spineAt
    rw [h2.op]
    simp only
    unfold Ent.after
    simp only
    cases hk : okOf E.ty o.op <;> simp [isSpine, hk]
end
end Go.Proofs.YteopodohghnokaaGreatDoor.Ex
end
section
namespace Go.Proofs.YteopodohghnokaaGreatDoor.Ex
open Go
set_option linter.unusedVariables false
set_option linter.unusedSimpArgs false

mutual
theorem eqAV_ok : ∀ (a b : AV), eqAV a b = true → a = b
  | .int k n, b, h => by cases b <;> simp [eqAV] at h; simp [h]
  | .lin k i a c, b, h => by cases b <;> simp [eqAV] at h; simp [h]
  | .bool x, b, h => by cases b <;> simp [eqAV] at h; simp [h]
  | .str s, b, h => by cases b <;> simp [eqAV] at h; simp [h]
  | .ptr x o, b, h => by cases b <;> simp [eqAV] at h; simp [h]
  | .nilptr, b, h => by cases b <;> simp [eqAV] at h; rfl
  | .slice a1 a2 a3 a4 a5, b, h => by cases b <;> simp [eqAV] at h; simp [h]
  | .nilslice, b, h => by cases b <;> simp [eqAV] at h; rfl
  | .func f x y, b, h => by
    cases b <;> simp [eqAV] at h
    rw [h.1.1, eqAVs_ok _ _ h.1.2, eqAVs_ok _ _ h.2]
  | .nilFunc, b, h => by cases b <;> simp [eqAV] at h; rfl
  | .iface t v, b, h => by
    cases b <;> simp [eqAV] at h
    rw [h.1, eqAV_ok _ _ h.2]
  | .nilIface, b, h => by cases b <;> simp [eqAV] at h; rfl
  | .agg l, b, h => by
    cases b <;> simp [eqAV] at h
    rw [eqAVs_ok _ _ h]
  | .tup l, b, h => by
    cases b <;> simp [eqAV] at h
    rw [eqAVs_ok _ _ h]
  | .glob g, b, h => by cases b <;> simp [eqAV] at h; simp [h]
  | .opq i, b, h => by cases b <;> simp [eqAV] at h; simp [h]
  | .yld i, b, h => by cases b <;> simp [eqAV] at h
theorem eqAVs_ok : ∀ (a b : List AV), eqAVs a b = true → a = b
  | [], b, h => by cases b <;> simp [eqAVs] at h; rfl
  | x :: l, b, h => by
    cases b <;> simp [eqAVs] at h
    rw [eqAV_ok _ _ h.1, eqAVs_ok _ _ h.2]
end

/-! ### A step from a lesser memory -/
/-- What a step from a part of memory does with all of it. -/
theorem rel_frame {E : Env} {γ γ' : Cx} {N n n' : Nat} {HD Hs Hs' HD' : HM} {w w' : World} (h : Rel E γ N HD w) (hs : ∀ id k, Hs id = some k → HD id = some k) (h' : Rel E γ' N Hs' w') (hx : Nxt γ Hs w n γ' Hs' w' n')
    (hd : ∀ id k, HD' id = some k → Hs' id = some k ∨ (Hs id = none ∧ HD id = some k)) : Rel E γ' N HD' w' ∧ Nxt γ HD w n γ' HD' w' n' := by
  have old : ∀ {id k}, Hs id = none → HD id = some k → ∃ β ω σ, RelB γ w id k β ω σ ∧ w'.heap[β]? = w.heap[β]? := fun {id k} a b => by
    obtain ⟨β, ω, σ, hb⟩ := h.blk b
    refine ⟨β, ω, σ, hb, hx.keep β (h.low hb.loc).2 (fun j k2 l2 hj hl e => ?_)⟩
    have := h.inj (hs _ _ hj) b hl hb.loc e
    subst this
    rw [hj] at a; cases a
  have cross : ∀ {i j k k' l l'}, Hs' i = some k → Hs j = none → HD j = some k' → γ'.loc i = some l → γ'.loc j = some l' → l.1 = l'.1 → False := fun {i j k k' l l'} hi hj hj' h1 h2 e => by
    obtain ⟨β, ω, σ, hb, _⟩ := old hj hj'
    have hl' := hx.le.loc hb.loc
    rw [hl'] at h2
    simp only [Option.some.injEq] at h2
    subst h2
    rcases hx.img hi h1 with q | ⟨j0, k0, l0, a, b, c⟩
    · have := (h.low hb.loc).2
      simp only at e this
      omega
    · have := h.inj (hs _ _ a) hj' b hb.loc (c.trans e)
      subst this
      rw [a] at hj; cases hj
  refine ⟨⟨fun {id k} hk => ?_, h'.low, fun {i j k k' l l'} hi hj h1 h2 e => ?_, h'.glob, h'.sym⟩, ⟨hx.le, hx.size, fun β hβ hf => hx.keep β hβ (fun id k l a b => hf id k l (hs _ _ a) b), fun {id k l} hk hl => ?_, hx.dom, hx.num, hx.still, fun {id k} hk => ?_⟩⟩
  · rcases hd id k hk with q | ⟨a, b⟩
    · exact h'.blk q
    · obtain ⟨β, ω, σ, hb, hw⟩ := old a b
      exact ⟨β, ω, σ, hb.keep hx.le hw⟩
  · rcases hd i k hi with q | ⟨a, b⟩ <;> rcases hd j k' hj with q' | ⟨a', b'⟩
    · exact h'.inj q q' h1 h2 e
    · exact (cross q a' b' h1 h2 e).elim
    · exact (cross q' a b h2 h1 e.symm).elim
    · obtain ⟨β, ω, σ, hb, _⟩ := old a b
      obtain ⟨β', ω', σ', hb', _⟩ := old a' b'
      have e1 := hx.le.loc hb.loc
      have e2 := hx.le.loc hb'.loc
      rw [e1] at h1
      rw [e2] at h2
      simp only [Option.some.injEq] at h1 h2
      subst h1 h2
      exact h.inj b b' hb.loc hb'.loc e
  · rcases hd id k hk with q | ⟨a, b⟩
    · rcases hx.img q hl with q | ⟨j0, k0, l0, a, b, c⟩
      · exact .inl q
      · exact .inr ⟨j0, k0, l0, hs _ _ a, b, c⟩
    · obtain ⟨β, ω, σ, hb, _⟩ := old a b
      have e1 := hx.le.loc hb.loc
      rw [e1] at hl
      simp only [Option.some.injEq] at hl
      subst hl
      exact .inr ⟨id, k, _, b, hb.loc, rfl⟩
  · rcases hd id k hk with q | ⟨a, b⟩
    · rcases hx.new q with ⟨k0, q⟩ | q
      · exact .inl ⟨k0, hs _ _ q⟩
      · exact .inr q
    · exact .inl ⟨k, b⟩

/-- A step within a stretch of names. -/
theorem Nxt.into {γ γ' γ'' : Cx} {H H' H'' : HM} {w w' w'' : World} {n n1 n2 m : Nat} (h : Nxt γ H w n γ' H' w' m) (g : Nxt γ' H' w' n1 γ'' H'' w'' n2) (h1 : n ≤ n1) (h2 : n2 ≤ m) : Nxt γ H w n γ'' H'' w'' m where
  le := h.le.trans g.le
  size := Nat.le_trans h.size g.size
  keep := fun β hβ hf => by
    rw [g.keep β (Nat.lt_of_lt_of_le hβ h.size) (fun id k l hk hl e => ?_), h.keep β hβ hf]
    rcases h.img hk hl with q | ⟨j, k0, l0, a, b, c⟩
    · omega
    · exact hf j k0 l0 a b (c.trans e)
  img := fun hk hl => by
    rcases g.img hk hl with q | ⟨j, k0, l0, a, b, c⟩
    · exact .inl (Nat.le_trans h.size q)
    · rcases h.img a b with q | ⟨j', k1, l1, a', b', c'⟩
      · exact .inl (by omega)
      · exact .inr ⟨j', k1, l1, a', b', c'.trans c⟩
  dom := fun hl => by
    rcases g.dom hl with ⟨l0, h0⟩ | q
    · exact h.dom h0
    · exact .inr ⟨by omega, by omega⟩
  num := h.num
  still := h.still.trans g.still
  new := fun e => by
    rcases g.new e with ⟨k0, h0⟩ | q
    · exact h.new h0
    · exact .inr ⟨by omega, by omega⟩

/-! ### The log -/
/-- The places of all that acts, the last one first. -/
def spI (ty : Tr TI) (ops : Array Oper) : List Ent → List Nat
  | [] => []
  | e :: l => spI ty ops l ++ (match spineE ty ops e with
    | true => [e.i]
    | false => [])
theorem spI_len (ty : Tr TI) (ops : Array Oper) : ∀ l : List Ent, (spI ty ops l).length = (spR ty ops l).length
  | [] => rfl
  | e :: l => by
    simp only [spI, spR, List.length_append, spI_len ty ops l]
    cases spineE ty ops e <;> rfl
theorem spI_mem (ty : Tr TI) (ops : Array Oper) : ∀ {l : List Ent} {i : Nat}, i ∈ spI ty ops l → ∃ e ∈ l, e.i = i ∧ spineE ty ops e = true
  | [], i, h => by simp [spI] at h
  | e :: l, i, h => by
    simp only [spI, List.mem_append] at h
    rcases h with h | h
    · obtain ⟨e', a, b⟩ := spI_mem ty ops h
      exact ⟨e', List.mem_cons_of_mem _ a, b⟩
    · cases hs : spineE ty ops e with
      | true => simp only [hs, List.mem_singleton] at h; exact ⟨e, List.mem_cons_self .., h.symm, hs⟩
      | false => simp [hs] at h
theorem spI_append (ty : Tr TI) (ops : Array Oper) : ∀ (l r : List Ent), spI ty ops (l ++ r) = spI ty ops r ++ spI ty ops l
  | [], r => by simp [spI]
  | e :: l, r => by simp only [List.cons_append, spI, spI_append ty ops l r, List.append_assoc]
theorem withAge_fst (ty : Tr TI) (ops : Array Oper) (ms : List Nat) : ∀ (L sps : List Nat), (withAge ty ops ms L sps).map (·.1) = L
  | [], _ => rfl
  | i :: L, sps => by simp [withAge, withAge_fst ty ops ms L]
theorem withAge_split (ty : Tr TI) (ops : Array Oper) (ms : List Nat) : ∀ (l1 : List Ent) (e : Ent) (l2 : List Ent) (L sps : List Nat), (l1 ++ e :: l2).map (fun e => (e.i, e.d)) = withAge ty ops ms L sps → e.d = ageOf (ms.getD e.i 0) (spI ty ops l1 ++ sps)
  | [], e, l2, L, sps, h => by
    cases L with
    | nil => simp [withAge] at h
    | cons i L =>
      simp only [List.nil_append, List.map_cons, withAge, List.cons.injEq, Prod.mk.injEq] at h
      obtain ⟨⟨rfl, h2⟩, _⟩ := h
      simpa [spI] using h2
  | e1 :: l1, e, l2, L, sps, h => by
    cases L with
    | nil => simp [withAge] at h
    | cons i L =>
      simp only [List.cons_append, List.map_cons, withAge, List.cons.injEq, Prod.mk.injEq] at h
      obtain ⟨⟨rfl, _⟩, h3⟩ := h
      have := withAge_split ty ops ms l1 e l2 L _ h3
      rw [this]
      simp only [spI, List.append_assoc]
      unfold spineE
      cases spineAt ty ops e1.i <;> rfl
theorem ageOf_le (m : Nat) : ∀ (q r : List Nat), (∀ c ∈ q, Nat.testBit m c = false) → q.length ≤ ageOf m (q ++ r)
  | [], r, _ => Nat.zero_le _
  | c :: q, r, h => by
    simp only [List.cons_append, ageOf, h c (List.mem_cons_self ..), List.length_cons]
    have := ageOf_le m q r (fun c hc => h c (List.mem_cons_of_mem _ hc))
    omega

theorem count_lt {α : Type} {p p' : α → Bool} : ∀ (l : List α), (∀ x ∈ l, p' x = true → p x = true) → (∃ x ∈ l, p x = true ∧ p' x = false) → l.countP p' < l.countP p
  | [], _, h => by obtain ⟨x, hx, _⟩ := h; simp at hx
  | y :: l, h1, h2 => by
    have le : ∀ (l : List α), (∀ x ∈ l, p' x = true → p x = true) → l.countP p' ≤ l.countP p := fun l h => List.countP_mono_left (by simpa using h)
    rw [List.countP_cons, List.countP_cons]
    obtain ⟨x, hx, a, b⟩ := h2
    rcases List.mem_cons.1 hx with rfl | hx
    · have := le l (fun x hx => h1 x (List.mem_cons_of_mem _ hx))
      simp [a, b]; omega
    · have := count_lt l (fun x hx => h1 x (List.mem_cons_of_mem _ hx)) ⟨x, hx, a, b⟩
      have h3 := h1 y (List.mem_cons_self ..)
      by_cases q : p' y = true
      · simp [q, h3 q]; omega
      · simp only [Bool.not_eq_true] at q
        simp only [q]
        simp
        omega
end Go.Proofs.YteopodohghnokaaGreatDoor.Ex
end
section
namespace Go.Proofs.YteopodohghnokaaGreatDoor.Ex
open Go
set_option linter.unusedVariables false
set_option linter.unusedSimpArgs false

/-- What the plan of a region says of its log. -/
structure LogOk (ty : Tr TI) (ops : Array Oper) (log : List Ent) : Prop where
  cover : ∀ i, i < ops.size → ∃ e ∈ log, e.i = i
  split : ∀ l1 e l2, log = l1 ++ e :: l2 → (∃ o, ops[e.i]? = some o ∧ (∀ p ∈ edgesOf o, ∃ e' ∈ l1, e'.i = p) ∧ (isSpine ty o = true → ∀ e' ∈ l1, Anc ops e.i e'.i)) ∧ (∀ e' ∈ l1, e'.i ≠ e.i)
  age : ∀ l1 e l2, log = l1 ++ e :: l2 → e.d = ageOf ((masks ops.toList []).getD e.i 0) (spI ty ops l1)
  ord : ∀ {j : Nat} {o : Oper}, ops[j]? = some o → ∀ t ∈ allReads ops o, ∀ {i : Nat} {o' : Oper}, ops[i]? = some o' → o'.dst = some t → i = j ∨ Anc ops j i ∨ Anc ops i j
  dst : ∀ {i j : Nat} {o o' : Oper} {t : Tmp}, ops[i]? = some o → ops[j]? = some o' → o.dst = some t → o'.dst = some t → i = j

theorem plan_ok {ty : Tr TI} {ops : Array Oper} {L : List (Nat × Nat)} (h : planOf ty ops = some L) {log : List Ent} (hl : log.map (fun e => (e.i, e.d)) = L) : LogOk ty ops log := by
  unfold planOf at h
  simp only at h
  split at h
  · rename_i hc
    simp only [Option.some.injEq] at h
    simp only [Bool.and_eq_true] at hc
    obtain ⟨⟨h1, h2⟩, h3⟩ := hc
    generalize hL : canon ty ops.size (masks ops.toList []) ops.toList 0 0 = Lc at h h1
    have hidx : log.map (·.i) = Lc := by
      have := congrArg (List.map (·.1)) hl
      rw [← h, withAge_fst] at this
      rw [← this, List.map_map]
      rfl
    obtain ⟨k1, k2⟩ := chk_ok Lc 0 h1
    refine ⟨fun i hi => ?_, fun l1 e l2 he => ?_, fun l1 e l2 he => ?_, fun {j o} ho t ht {i o'} ho' hd => ?_, fun {i j o o' t} a b c d => dsts_inj ops.toList (nodupB_ok _ h3) i j o o' t (by simpa using a) (by simpa using b) c d⟩
    · rcases k2 i hi with q | q
      · simp at q
      · rw [← hidx] at q
        obtain ⟨e, a, b⟩ := List.mem_map.1 q
        exact ⟨e, a, b⟩
    · have := k1 (l1.map (·.i)) e.i (l2.map (·.i)) (by rw [← hidx, he]; simp)
      obtain ⟨⟨o, a, b, c⟩, _, d⟩ := this
      refine ⟨⟨o, a, fun p hp => ?_, fun hs e' he' => c hs _ (.inr (List.mem_map.2 ⟨e', he', rfl⟩))⟩, fun e' he' q => d (List.mem_map.2 ⟨e', he', q⟩)⟩
      rcases b p hp with q | q
      · simp at q
      · exact List.mem_map.1 q
    · have := withAge_split ty ops (masks ops.toList []) l1 e l2 Lc [] (by rw [← he, hl, h])
      simpa using this
    · have q := ordAll_ok ops.toList 0 h2 j o (by simpa using ho) t ht
      rw [Nat.zero_add] at q
      have := ordOne_ok ops.toList 0 q i o' (by simpa using ho') hd
      rw [Nat.zero_add] at this
      exact this
  · cases h

section
variable {ty : Tr TI} {ops : Array Oper} {log : List Ent}
theorem LogOk.inj (h : LogOk ty ops log) {e e' : Ent} (he : e ∈ log) (he' : e' ∈ log) (q : e.i = e'.i) : e = e' := by
  obtain ⟨l1, l2, rfl⟩ := List.append_of_mem he
  rcases List.mem_append.1 he' with m | m
  · exact absurd q.symm ((h.split l1 e l2 rfl).2 e' m)
  · rcases List.mem_cons.1 m with m | m
    · exact m.symm
    · obtain ⟨m1, m2, rfl⟩ := List.append_of_mem m
      exact absurd q ((h.split (l1 ++ e :: m1) e' m2 (by simp)).2 e (by simp))
theorem LogOk.before (h : LogOk ty ops log) : ∀ (n : Nat) (l1 : List Ent) (e : Ent) (l2 : List Ent) (j : Nat), l1.length ≤ n → log = l1 ++ e :: l2 → Anc ops e.i j → ∃ e' ∈ l1, e'.i = j
  | n, l1, e, l2, j, hn, hl, ha => by
    obtain ⟨⟨o, ho, hp, _⟩, _⟩ := h.split l1 e l2 hl
    obtain ⟨p, hpe, q⟩ := anc_edge ho ha
    obtain ⟨e1, he1, rfl⟩ := hp p hpe
    rcases q with rfl | q
    · exact ⟨e1, he1, rfl⟩
    · obtain ⟨m1, m2, rfl⟩ := List.append_of_mem he1
      cases n with
      | zero => simp at hn
      | succ n =>
        obtain ⟨e', a, b⟩ := LogOk.before h n m1 e1 (m2 ++ e :: l2) j (by simp at hn; omega) (by simp [hl]) q
        exact ⟨e', by simp [a], b⟩
theorem LogOk.ahead (h : LogOk ty ops log) {l1 : List Ent} {e : Ent} {l2 : List Ent} (hl : log = l1 ++ e :: l2) {e' : Ent} (he' : e' ∈ log) (ha : Anc ops e.i e'.i) : e' ∈ l1 := by
  obtain ⟨e1, a, b⟩ := h.before _ l1 e l2 e'.i (Nat.le_refl _) hl ha
  have := h.inj (by rw [hl]; simp [a]) he' b
  rw [← this]; exact a
end

section
variable (E : Env) (call : CallF) (nt : Nat) (ops : Array Oper) (log : List Ent) (x0 y0 : DS) (γ0 : Cx) (w0 : World) (N B : Nat)
structure Inv (pre suf : List Ent) (xp : DS) (γ : Cx) (FD : Fr) (HD : HM) (D : Nat → Prop) (a : Act) (w : World) : Prop where
  eq : log = pre ++ suf
  run1 : Run E call nt ops pre x0 xp
  run2 : Run E call nt ops suf xp y0
  done : ∀ e ∈ pre, D e.i
  head : xp.past.head? = some xp.H
  quiet : ∀ e ∈ suf, D e.i → spineE E.ty ops e = false
  anc : ∀ {i j}, D i → Anc ops i j → D j
  fd1 : ∀ e ∈ log, D e.i → ∀ t, dstOf ops e.i = some t → tmpA FD t = tmpA e.s.F t
  fd2 : ∀ t, (∀ e ∈ log, D e.i → dstOf ops e.i ≠ some t) → tmpA FD t = tmpA x0.F t
  hd1 : ∀ e ∈ suf, D e.i → ∀ id k, newOf E.ty ops e = some (id, k) → HD id = some k
  hd2 : ∀ id, (∀ e ∈ suf, D e.i → ∀ k, newOf E.ty ops e ≠ some (id, k)) → HD id = xp.H.bs.get id
  free : ∀ id, xp.H.n ≤ id → id < y0.H.n → xp.H.bs.get id = none
  name : ∀ id l, x0.H.n ≤ id → id < y0.H.n → γ.loc id = some l → id < xp.H.n ∨ ∃ e ∈ suf, D e.i ∧ ∃ k, newOf E.ty ops e = some (id, k)
  sr : SR E γ N B nt FD HD a w
  nxt : Nxt γ0 x0.H.bs.get w0 x0.H.n γ HD w y0.H.n
end

section
variable {E : Env} {call : CallF} {nt : Nat} {ops : Array Oper} {log : List Ent} {x0 y0 : DS} {γ0 : Cx} {w0 : World} {N B : Nat}
variable {pre suf : List Ent} {xp : DS} {γ : Cx} {FD : Fr} {HD : HM} {D : Nat → Prop} {a : Act} {w : World}

/-- A slot behind a run that wrote it. -/
theorem run_wrote (lk : LogOk E.ty ops log) {l1 l2 : List Ent} (hl : log = l1 ++ l2) {x y : DS} (hr : Run E call nt ops l1 x y) {e : Ent} (he : e ∈ l1) {t : Tmp} (hd : dstOf ops e.i = some t) : tmpA y.F t = tmpA e.s.F t := by
  obtain ⟨q1, q2, rfl⟩ := List.append_of_mem he
  obtain ⟨z, _, h1, o, h2, h3⟩ := Run.append hr
  rw [run_frame h3 t (fun e2 he2 hd2 => ?_)]
  · rfl
  · unfold dstOf at hd hd2
    cases h5 : ops[e2.i]? with
    | none => simp [h5] at hd2
    | some o2 =>
      rw [h2.op] at hd
      rw [h5] at hd2
      simp only [Option.bind_some] at hd hd2
      have := lk.dst h2.op h5 hd hd2
      obtain ⟨m1, m2, rfl⟩ := List.append_of_mem he2
      exact (lk.split (q1 ++ e :: m1) e2 (m2 ++ l2) (by rw [hl]; simp)).2 e (by simp) this

variable (inv : Inv E call nt ops log x0 y0 γ0 w0 N B pre suf xp γ FD HD D a w)
include inv

theorem Inv.ready_anc {i : Nat} {o : Oper} (ho : ops[i]? = some o) (hr : ∀ p ∈ edgesOf o, D p) {j : Nat} (ha : Anc ops i j) : D j := by
  obtain ⟨p, hp, q⟩ := anc_edge ho ha
  rcases q with rfl | q
  · exact hr _ hp
  · exact inv.anc (hr p hp) q

variable (lk : LogOk E.ty ops log)
include lk
/-- What a ready operation reads is what it read in the runner's own order. -/
theorem Inv.reads {mid rest : List Ent} {e : Ent} (hs : suf = mid ++ e :: rest) {o : Oper} (hg : Good E call nt ops e o) (hr : ∀ p ∈ edgesOf o, D p) (hn : ¬ D e.i) : Agree FD e.st.F (allReads ops o) := by
  intro t ht
  have hlog : log = (pre ++ mid) ++ e :: rest := by rw [inv.eq, hs, List.append_assoc]
  have hrun : Run E call nt ops (pre ++ mid) x0 e.st := by
    have := inv.run2
    rw [hs] at this
    obtain ⟨z, h1, h2, _⟩ := Run.append this
    rw [h2]
    exact inv.run1.join h1
  have same : (∀ e' ∈ log, D e'.i → dstOf ops e'.i ≠ some t) → (∀ e' ∈ pre ++ mid, dstOf ops e'.i ≠ some t) → tmpA FD t = tmpA e.st.F t := fun a b => by
    rw [inv.fd2 t a, run_frame hrun t b]
  by_cases hw : ∃ e' ∈ log, dstOf ops e'.i = some t
  · obtain ⟨e', he', hd⟩ := hw
    have uniq : ∀ e2 ∈ log, dstOf ops e2.i = some t → e2 = e' := fun e2 h2 hd2 => by
      refine lk.inj h2 he' ?_
      unfold dstOf at hd hd2
      cases h5 : ops[e2.i]? with
      | none => simp [h5] at hd2
      | some o2 =>
        cases h6 : ops[e'.i]? with
        | none => simp [h6] at hd
        | some o3 =>
          rw [h5] at hd2
          rw [h6] at hd
          exact lk.dst h5 h6 hd2 hd
    obtain ⟨o', ho', hdo⟩ : ∃ o', ops[e'.i]? = some o' ∧ o'.dst = some t := by
      unfold dstOf at hd
      cases h6 : ops[e'.i]? with
      | none => simp [h6] at hd
      | some o3 => rw [h6] at hd; exact ⟨o3, rfl, hd⟩
    have before : e' ∈ pre ++ mid → D e'.i → tmpA FD t = tmpA e.st.F t := fun m hD => by
      rw [inv.fd1 e' he' hD t hd, run_wrote lk hlog hrun m hd]
    have after : e' ∉ pre ++ mid → ¬ D e'.i → tmpA FD t = tmpA e.st.F t := fun m hD =>
      same (fun e2 h2 hD2 hd2 => by rw [uniq e2 h2 hd2] at hD2; exact hD hD2) (fun e2 h2 hd2 => by rw [uniq e2 (by rw [hlog]; exact List.mem_append_left _ h2) hd2] at h2; exact m h2)
    rcases lk.ord hg.op t ht ho' hdo with q | q | q
    · refine after (fun m => (lk.split _ e rest hlog).2 e' m q) (by rw [q]; exact hn)
    · exact before (lk.ahead hlog he' q) (inv.ready_anc hg.op hr q)
    · refine after (fun m => ?_) (fun hD => hn (inv.anc hD q))
      obtain ⟨m1, m2, hm⟩ := List.append_of_mem m
      have hl2 : log = m1 ++ e' :: (m2 ++ e :: rest) := by rw [hlog, hm]; simp
      have := lk.ahead hl2 (e' := e) (by rw [hlog]; simp) q
      exact (lk.split _ e rest hlog).2 e (by rw [hm]; simp [this]) rfl
  · exact same (fun e' he' _ hd => hw ⟨e', he', hd⟩) (fun e' he' hd => hw ⟨e', by rw [hlog]; exact List.mem_append_left _ he', hd⟩)

/-- All done. -/
theorem Inv.last (hnum : NumOk call) (hall : ∀ e ∈ log, D e.i) : SR E γ N B nt y0.F y0.H.bs.get a w ∧ Nxt γ0 x0.H.bs.get w0 x0.H.n γ y0.H.bs.get w y0.H.n := by
  have hrun : Run E call nt ops log x0 y0 := by rw [inv.eq]; exact inv.run1.join inv.run2
  have hmem : ∀ e ∈ suf, e ∈ log := fun e he => by rw [inv.eq]; exact List.mem_append_right _ he
  have hF : ∀ t, tmpA FD t = tmpA y0.F t := fun t => by
    by_cases hw : ∃ e' ∈ log, dstOf ops e'.i = some t
    · obtain ⟨e, he, hd⟩ := hw
      rw [inv.fd1 e he (hall e he) t hd, run_wrote lk (l2 := []) (by simp) hrun he hd]
    · rw [inv.fd2 t (fun e he _ hd => hw ⟨e, he, hd⟩), run_frame hrun t (fun e he hd => hw ⟨e, he, hd⟩)]
  have hH : HD = y0.H.bs.get := by
    funext id
    obtain ⟨q1, q2⟩ := run_quiet hnum inv.run2 (fun e he => inv.quiet e he (hall e (hmem e he))) id
    by_cases hp : ∃ e ∈ suf, ∃ k, newOf E.ty ops e = some (id, k)
    · obtain ⟨e, he, k, hk⟩ := hp
      rw [inv.hd1 e he (hall e (hmem e he)) id k hk, q1 e he k hk]
    · rw [inv.hd2 id (fun e he _ k hk => hp ⟨e, he, k, hk⟩), q2 (fun e he k hk => hp ⟨e, he, k, hk⟩)]
  refine ⟨⟨by rw [← hH]; exact inv.sr.rel, fun t => by rw [← hF t]; exact inv.sr.fr t, inv.sr.low, inv.sr.size, by rw [← hH]; exact inv.sr.defs⟩, by rw [← hH]; exact inv.nxt⟩
end
end Go.Proofs.YteopodohghnokaaGreatDoor.Ex
end
