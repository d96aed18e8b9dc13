/- Whether a list of nodes is an expression: by where each begins, and by a stack: they say the same. -/
import Derived.Test.YtbmjdkbakeckoaaPRefsAllx0
import Derived.RangeFuncFrom
import Derived.RangeFuncNested
import Derived.RangeFuncCalls
import Derived.RangeFuncLeaves
import Derived.RangeFuncBox
import Derived.Shelf.Abstract
import Derived.Shelf.RegionOpen
import Derived.OwnWalkIn
import Derived.TacticsInMore
import Derived.LoopNIn
import Derived.LoopIn
import Derived.Lib.Hide
import Derived.LoopN
import Derived.ArgAppend
namespace Go.Proofs.Ytbmjdkbakeckoaa.Tree
set_option linter.unusedVariables false

/-- Kids from the last one on: each ends ahead of where the one behind it begins. -/
def backF (g : Int → Int) : List Int → Int → Int
  | [], i => i
  | k :: ks, i => if k < 0 ∨ k ≠ i - 1 then -1 else if g k < 0 then -1 else backF g ks (g k)
/-- Where the expression begins that ends at a place. -/
def begF {α : Type} (ok : α → Bool) (kd : α → List Int) (l : List α) : Nat → Int → Int
  | 0, _ => -1
  | f + 1, e => match l[e.toNat]? with
    | none => -1
    | some n => if ok n then backF (begF ok kd l f) (kd n).reverse e else -1
/-- The stack, its top ahead. -/
def runS {α : Type} (ok : α → Bool) (kd : α → List Int) : List α → Int → List Int → Bool
  | [], _, rs => rs.length == 1
  | n :: ns, i, rs => if ok n = true ∧ (kd n).reverse = rs.take (kd n).length then runS ok kd ns (i + 1) (i :: rs.drop (kd n).length) else false

section
variable {α : Type} (ok : α → Bool) (kd : α → List Int) (l : List α)
/-- It begins no later than it ends. -/
theorem backF_le {g : Int → Int} : ∀ (ks : List Int) (i : Int), 0 ≤ i → (∀ k, 0 ≤ k → k < i → g k ≤ k) → backF g ks i ≤ i
  | [], i, h0, h => Int.le_refl _
  | k :: ks, i, h0, h => by
    simp only [backF]
    split
    · omega
    · split
      · omega
      · rename_i h1 h2
        have hk := h k (by omega) (by omega)
        have := backF_le ks (g k) (by omega) (fun k' a b => h k' a (by omega))
        omega
theorem backF_congr {g g' : Int → Int} : ∀ (ks : List Int) (i : Int), (∀ k, 0 ≤ k → k < i → g k = g' k ∧ g k ≤ k) → backF g ks i = backF g' ks i
  | [], i, h => rfl
  | k :: ks, i, h => by
    simp only [backF]
    split
    · rfl
    · rename_i h1
      obtain ⟨e, hk⟩ := h k (by omega) (by omega)
      rw [← e]
      split
      · rfl
      · exact backF_congr ks (g k) (fun k' a b => h k' a (by omega))
theorem begF_fuel : ∀ (n : Nat) (e : Int) (f f' : Nat), e.toNat = n → 0 ≤ e → n < f → n < f' → begF ok kd l f e = begF ok kd l f' e ∧ begF ok kd l f e ≤ e := by
  intro n
  induction n using Nat.strongRecOn with
  | _ n ih =>
  intro e f f' hn h0 h1 h2
  obtain ⟨f, rfl⟩ : ∃ k, f = k + 1 := ⟨f - 1, by omega⟩
  obtain ⟨f', rfl⟩ : ∃ k, f' = k + 1 := ⟨f' - 1, by omega⟩
  simp only [begF]
  cases l[e.toNat]? with
  | none => exact ⟨rfl, by simp only; omega⟩
  | some x =>
    simp only
    split
    · refine ⟨backF_congr _ _ fun k a b => ?_, backF_le _ _ h0 fun k a b => ?_⟩
      · exact ih k.toNat (by omega) k f f' rfl a (by omega) (by omega)
      · exact (ih k.toNat (by omega) k f f rfl a (by omega) (by omega)).2
    · exact ⟨rfl, by omega⟩
/-- Where it begins, with as much fuel as it wants. -/
def beg (e : Int) : Int := begF ok kd l (e.toNat + 1) e
theorem beg_le {e : Int} (h : 0 ≤ e) : beg ok kd l e ≤ e := (begF_fuel ok kd l e.toNat e _ _ rfl h (Nat.lt_succ_self _) (Nat.lt_succ_self _)).2
theorem beg_eq {e : Int} (h : 0 ≤ e) : beg ok kd l e = match l[e.toNat]? with
    | none => -1
    | some n => if ok n then backF (beg ok kd l) (kd n).reverse e else -1 := by
  show begF ok kd l (e.toNat + 1) e = _
  simp only [begF]
  cases l[e.toNat]? with
  | none => rfl
  | some x =>
    simp only
    split
    · exact backF_congr _ _ fun k a b => begF_fuel ok kd l k.toNat k _ _ rfl a (by omega) (by omega)
    · rfl
/-- A stack over the first nodes. -/
inductive Chain : Int → List Int → Prop
  | nil : Chain 0 []
  | cons {e b : Int} {rs : List Int} (h0 : 0 ≤ e) (hb : beg ok kd l e = b) (hb0 : 0 ≤ b) (h : Chain b rs) : Chain (e + 1) (e :: rs)
theorem Chain.pos {i : Int} {rs : List Int} (h : Chain ok kd l i rs) : 0 ≤ i := by
  cases h with
  | nil => omega
  | cons h0 _ _ _ => omega
theorem back_chain : ∀ (ks : List Int) (i : Int) (rs : List Int), Chain ok kd l i rs →
    (ks = rs.take ks.length → ∃ r, 0 ≤ r ∧ backF (beg ok kd l) ks i = r ∧ Chain ok kd l r (rs.drop ks.length)) ∧ (ks ≠ rs.take ks.length → backF (beg ok kd l) ks i < 0)
  | [], i, rs, h => ⟨fun _ => ⟨i, h.pos, rfl, by simpa using h⟩, fun h => by simp at h⟩
  | k :: ks, i, rs, h => by
    cases h with
    | nil =>
      refine ⟨fun h => by simp at h, fun _ => ?_⟩
      simp only [backF]
      rw [if_pos (by omega)]
      omega
    | @cons e b rs h0 hb hb0 h =>
      simp only [backF, List.length_cons, List.take_succ_cons, List.drop_succ_cons]
      by_cases hk : k = e
      · subst hk
        rw [if_neg (by omega), hb, if_neg (by omega)]
        have := back_chain ks b rs h
        exact ⟨fun e => this.1 (by simpa using e), fun e => this.2 (fun q => e (by rw [← q]))⟩
      · rw [if_pos (by omega)]
        exact ⟨fun e => absurd (List.cons.inj e).1 hk, fun _ => by omega⟩
/-- Where it begins, all that lies between begins somewhere. -/
theorem back_all {e : Int} (hl : ∀ j b, 0 ≤ j → j < e → beg ok kd l j = b → 0 ≤ b → ∀ x, b ≤ x → x ≤ j → 0 ≤ beg ok kd l x) :
    ∀ (ks : List Int) (i : Int), 0 ≤ i → i ≤ e → ∀ b, backF (beg ok kd l) ks i = b → 0 ≤ b → ∀ x, b ≤ x → x < i → 0 ≤ beg ok kd l x
  | [], i, h0, hi, b, hb, hb0, x, h1, h2 => by simp only [backF] at hb; omega
  | k :: ks, i, h0, hi, b, hb, hb0, x, h1, h2 => by
    simp only [backF] at hb
    split at hb
    · omega
    · split at hb
      · omega
      · rename_i c1 c2
        have hle := beg_le ok kd l (e := k) (by omega)
        by_cases hx : x < beg ok kd l k
        · exact back_all hl ks (beg ok kd l k) (by omega) (by omega) b hb hb0 x h1 hx
        · exact hl k _ (by omega) (by omega) rfl (by omega) x (by omega) (by omega)
theorem beg_all : ∀ (n : Nat) (e : Int), e.toNat = n → 0 ≤ e → ∀ b, beg ok kd l e = b → 0 ≤ b → ∀ x, b ≤ x → x ≤ e → 0 ≤ beg ok kd l x := by
  intro n
  induction n using Nat.strongRecOn with
  | _ n ih =>
  intro e hn h0 b hb hb0 x h1 h2
  by_cases hx : x = e
  · subst hx; omega
  · have hq := beg_eq ok kd l h0
    rw [hb] at hq
    split at hq
    · omega
    · split at hq
      · exact back_all ok kd l (e := e) (fun j b hj hj' hjb hb0 x h1 h2 => ih j.toNat (by omega) j rfl hj b hjb hb0 x h1 h2) _ e h0 (by omega) b hq.symm hb0 x h1 (by omega)
      · omega
/-- A step of the stack. -/
theorem step_ok {i : Int} {rs : List Int} {n : α} (h : Chain ok kd l i rs) (hn : l[i.toNat]? = some n) (hs : ok n = true ∧ (kd n).reverse = rs.take (kd n).length) : Chain ok kd l (i + 1) (i :: rs.drop (kd n).length) := by
  have h0 := h.pos
  have hq := beg_eq ok kd l h0
  rw [hn] at hq
  simp only [hs.1, if_true] at hq
  obtain ⟨r, hr0, hr, hc⟩ := (back_chain ok kd l (kd n).reverse i rs h).1 (by rw [List.length_reverse]; exact hs.2)
  rw [List.length_reverse] at hc
  exact .cons h0 (hq.trans hr) hr0 hc
theorem step_bad {i : Int} {rs : List Int} {n : α} (h : Chain ok kd l i rs) (hn : l[i.toNat]? = some n) (hs : ¬ (ok n = true ∧ (kd n).reverse = rs.take (kd n).length)) : beg ok kd l i < 0 := by
  have h0 := h.pos
  rw [beg_eq ok kd l h0, hn]
  simp only
  split
  · rename_i ho
    refine (back_chain ok kd l (kd n).reverse i rs h).2 ?_
    rw [List.length_reverse]
    exact fun e => hs ⟨ho, e⟩
  · omega
theorem runS_beg : ∀ (m : List α) (i : Int) (rs : List Int), 0 ≤ i → l.drop i.toNat = m → l.length ≠ 0 → Chain ok kd l i rs → i.toNat ≤ l.length → runS ok kd m i rs = (beg ok kd l ((l.length : Int) - 1) == 0)
  | [], i, rs, h0, hm, hl, h, hi => by
    have hi' : i = l.length := by
      have := congrArg List.length hm
      simp only [List.length_drop, List.length_nil] at this
      omega
    subst hi'
    simp only [runS]
    generalize hL : (l.length : Int) = L at *
    cases h with
    | nil => exfalso; omega
    | @cons e b rs h0 hb hb0 h =>
      rw [show e + 1 - 1 = e by omega, hb]
      cases h with
      | nil => rfl
      | @cons e' b' rs' h0' hb' hb0' h' =>
        rw [show (e' + 1 == 0) = false by simp; omega]
        simp
  | n :: m, i, rs, h0, hm, hl, h, hi => by
    have hlt : i.toNat < l.length := by
      have := congrArg List.length hm
      simp only [List.length_drop, List.length_cons] at this
      omega
    have hn : l[i.toNat]? = some n := by
      have := congrArg (·[0]?) hm
      simpa using this
    simp only [runS]
    by_cases hs : ok n = true ∧ (kd n).reverse = rs.take (kd n).length
    · rw [if_pos hs]
      refine runS_beg m (i + 1) _ (by omega) ?_ hl (step_ok ok kd l h hn hs) (by omega)
      rw [show (i + 1).toNat = i.toNat + 1 by omega, ← List.drop_drop, hm]
      rfl
    · rw [if_neg hs]
      have hb := step_bad ok kd l h hn hs
      symm
      rw [beq_eq_false_iff_ne]
      intro hz
      have := beg_all ok kd l _ ((l.length : Int) - 1) rfl (by omega) 0 hz (by omega) i (by omega) (by omega)
      omega
/-- They say the same. -/
theorem tree_same (hl : l.length ≠ 0) : runS ok kd l 0 [] = (beg ok kd l ((l.length : Int) - 1) == 0) := runS_beg ok kd l l 0 [] (by omega) rfl hl .nil (by simp)
end
end Go.Proofs.Ytbmjdkbakeckoaa.Tree
namespace Go.Proofs.Ytbmjdkbakeckoaa
open Go Go.RowKit Go.Proofs.YtbmjdkbakeckoaaW.PrintWords Go.Proofs.Ytbmjdkbakeckoaa.PRefsAll
set_option maxRecDepth 100000
set_option linter.unusedSimpArgs false
set_option linter.unusedVariables false
set_option maxHeartbeats 2000000
attribute [local go_sem] Oper.semAt_some

theorem backward_any (A : Option Addr) (m c : Nat) (w : World) : Calls Try.prog 46 #[.slice A m c] w fun e w' => e = .returned (.func (.func 58) #[] #[.pointer (some ⟨w.heap.size, 0, none⟩)]) ∧ w' = w.alloc (.cells #[.slice A m c] 28) := by
  go_enter Try.func46, Try.ntmps46
  go_wp2
  go_ret
  exact ⟨rfl, rfl⟩

/-- An int's cell, at an address written out. -/
theorem int_cells {w : World} {A : Option Addr} {n : Nat} {l : List Int} (h : (Kd.int .i64).C w A n l) (i : Nat) (hi : i < n) :
    ∃ b o, A = some ⟨b, o, none⟩ ∧ b < w.heap.size ∧ w.cell? ⟨b, o + i, none⟩ = some (.int .i64 (l[i]?.getD 0)) := by
  obtain ⟨ad, rfl, h0⟩ := Kd.at_int h i (by omega) (by omega)
  obtain ⟨ad2, e2, g0⟩ := Kd.at_int h 0 (by omega) (by omega)
  injection e2 with e2
  subst e2
  rw [show (0 : Int).toNat = 0 from rfl, Addr.add_zero'] at g0
  have hsp := World.cell?_spot g0
  obtain ⟨b, o, sp⟩ := ad
  simp only at hsp
  subst hsp
  have ht : ((i : Int)).toNat = i := by omega
  rw [ht] at h0
  have e1 : (⟨b, o, none⟩ : Addr).add i = ⟨b, o + i, none⟩ := by unfold Addr.add; split <;> simp_all
  rw [e1] at h0
  refine ⟨b, o, rfl, World.block_lt_of_cell? w _ h0, h0.trans ?_⟩
  simp [rd, ht]

/-- A list from its end: each with its place. -/
def revP (l : List Int) (k : Nat) : List (Nat × Int) := (List.range k).map fun j => (l.length - 1 - j, l[l.length - 1 - j]?.getD 0)
theorem revP_succ (l : List Int) (k : Nat) : revP l (k + 1) = revP l k ++ [(l.length - 1 - k, l[l.length - 1 - k]?.getD 0)] := by simp [revP, List.range_succ]
theorem revP_length (l : List Int) (k : Nat) : (revP l k).length = k := by simp [revP]
theorem revP_snd (l : List Int) : (revP l l.length).map (·.2) = l.reverse := by
  apply List.ext_getElem
  · simp [revP]
  · intro i h1 h2
    have h3 : i < l.length := by simpa [revP] using h1
    have h4 : l.length - 1 - i < l.length := by omega
    simp [revP, List.getElem?_eq_getElem h4]
theorem revP_pre (l : List Int) {k : Nat} (hk : k ≤ l.length) : ∃ rest, revP l l.length = revP l k ++ rest := by
  refine ⟨(revP l l.length).drop k, ?_⟩
  have : revP l k = (revP l l.length).take k := by
    apply List.ext_getElem
    · simp [revP, hk]
    · intro i h1 h2
      simp [revP]
  rw [this, List.take_append_drop]

/-- What a round keeps: what lay below n₀, and the box of the list. -/
def KpB (n₀ B : Nat) (v : Value) (A C : World) : Prop := Below n₀ A C ∧ (A.cell? ⟨B, 0, none⟩ = some v → C.cell? ⟨B, 0, none⟩ = some v)
theorem KpB.refl {n₀ B : Nat} {v : Value} (A : World) : KpB n₀ B v A A := ⟨Below.refl _ _, id⟩
theorem KpB.trans {n₀ B : Nat} {v : Value} {A C D : World} (h : KpB n₀ B v A C) (k : KpB n₀ B v C D) : KpB n₀ B v A D := ⟨h.1.trans k.1, fun q => k.2 (h.2 q)⟩
theorem KpB.put {n₀ B : Nat} {v : Value} {w : World} (hn : n₀ ≤ w.heap.size) (W : World) (l : Nat) (o o' : Obj) (hl : w.heap.size ≤ l) (h : W.heap[l]? = some o) (h1 : o.isCells = false) (h2 : o.isWalk = false) : KpB n₀ B v W (W.putObj l o') :=
  ⟨belowK_b hn W l o o' hl h h1 h2, fun q => cell_kept q (grownBy_putObj' W l o') (fun r e => by cases e; exact ⟨o, h, h1⟩)⟩

/-- The law of a range over a function, where the activation of a round is found on the way. -/
theorem range_own {F : Fence} {n : Nat} {P : Program} {α : Type} {g : Operand} {ps : Array Tmp} {assign body : Code} {Q : Exit → Act → World → Prop} {a : Act} {w : World}
    (hro : F.round = none) (h1 : 1 ≤ n) {gf : Nat} {lb : Array Value} (hg : a.eval g = .func (.func gf) #[] lb) (hFg : F.fn gf) (eg : ∀ args w, (callFunc gf args).run P w = .ok (.enter gf args) w)
    {encs : α → Array Value} {Kp : World → World → Prop} {S Sp : List α → Prop} {N : Nat} {w0 : World} (hseq : SeqStopsK F (n - 1) P gf lb encs Kp S Sp N w0)
    (hKt : ∀ {A B C : World}, Kp A B → Kp B C → Kp A C) (hKb : ∀ (W : World) (l : Nat) (o o' : Obj), w.heap.size ≤ l → W.heap[l]? = some o → o.isCells = false → o.isWalk = false → Kp W (W.putObj l o')) (hb0 : Below w0.heap.size w0 w) (hps : ∀ x, (encs x).size = ps.size)
    (I : List α → World → Prop) (Ix : Code → List α → World → Prop) (hI : OwnFrom w.heap.size I) (hIx : ∀ c, OwnFrom w.heap.size (Ix c)) (h0 : I [] w)
    (ha : ∃ a₁ : α → Act, (∀ (l : Nat) (x : α) (W : World) (K : Act → World → Prop), K (a₁ x) W →
      assign.wpIn (F.inRound l) (n - 1 - 1) P (Exit.then K (fun _ _ _ => False)) { tmps := (ps.zip (encs x)).foldl (fun t (p, v) => t.setIfInBounds p v) a.tmps, defers := [] } W) ∧
      (∀ (l : Nat) (pre : List α) (x : α) (W : World), I pre W → pre.length < N → body.wpIn (F.inRound l) (n - 1 - 1) P (ownPostK Kp I Ix (pre ++ [x]) W) (a₁ x) W))
    (hdone : ∀ (D : Nat) (xs : List α) (W : World), w.heap.size ≤ D → S xs → I xs W → W.heap[D]? = some (.deferred (some [])) → Q .normal { a with defers := { target := .collected D, args := #[] } :: a.defers } W)
    (hstop : ∀ (D : Nat) (c : Code) (pre : List α) (W : World), w.heap.size ≤ D → Sp pre → Ix c pre W → W.heap[D]? = some (.deferred (some [])) → c.wpIn F n P Q { a with defers := { target := .collected D, args := #[] } :: a.defers } W) :
    (Code.rangeFunc g ps assign body).wpIn F n P Q a w := by
  obtain ⟨a₁, h2, h3⟩ := ha
  exact wpIn_rangeFunc_ownF hro h1 hg hFg eg hseq (fun h k => hKt h k) hKb hb0 hps I Ix hI hIx h0 a₁ h2 h3 hdone hstop

theorem back_stops (n B n₀ : Nat) (hn : 1 ≤ n) (A : Option Addr) (c : Nat) (l : List Int) (w : World) (hl : (Kd.int .i64).C w A l.length l) (hlen : l.length ≤ 1000) (hn₀ : n₀ ≤ w.heap.size) (hb : ∀ b o, A = some ⟨b, o, none⟩ → l.length ≠ 0 → b < n₀) (hB : B < w.heap.size)
    (h : w.cell? ⟨B, 0, none⟩ = some (.slice A l.length c)) :
    SeqStopsK (α := Nat × Int) Fence.wide n Try.prog 58 #[.pointer (some ⟨B, 0, none⟩)] (fun x => #[Value.int .i64 (x.1 : Int), Value.int .i64 x.2]) (KpB n₀ B (.slice A l.length c)) (fun ys => ys = revP l l.length) (fun pre => ∃ k, k ≤ l.length ∧ pre = revP l k) l.length w := by
  intro lp J Jx W hW hJ hJx hY h0
  have hcell := (hW.cell (p := ⟨B, 0, none⟩) hB).trans h
  have HL := Lib.hid (Kd.C_below hl hW)
  clear hl
  refine callsIn_of_wp Try.func58 rfl trivial ?_ rfl
  simp only [Try.ntmps58, List.size_toArray, List.length_cons, List.length_nil, Nat.reduceAdd, Nat.reduceSub, Array.replicate_succ, Array.replicate_zero, List.push_toArray, List.append_toArray, List.nil_append, List.cons_append]
  gi_wp2
  gi_loopw [3] (fun p wr => ∃ k : Nat, k ≤ l.length ∧ p = .int .i64 ((l.length : Int) - 1 - k) ∧ J (revP l k) wr ∧ KpB n₀ B (.slice A l.length c) W wr) (fun p _ => (intOf p + 1).toNat)
  case atStart => exact ⟨0, Nat.zero_le _, by simp, h0, KpB.refl _⟩
  case round =>
    obtain ⟨k, hk, rfl, hJs, hnx⟩ := hrel
    have hc2 := hnx.2 hcell
    by_cases hlt : k < l.length
    · obtain ⟨b, o, hA, hbw, hcx⟩ := int_cells HL.out (l.length - 1 - k) (by omega)
      subst hA
      have hcx2 := (hnx.1.cell (p := ⟨b, o + (l.length - 1 - k), none⟩) (hb b o rfl (by omega))).trans hcx
      obtain ⟨i, hi⟩ : ∃ i, l.length - 1 - k = i := ⟨_, rfl⟩
      have hi2 : (l.length : Int) - 1 - k = (i : Int) := by omega
      rw [hi] at hcx2 hcx
      have hil : i < l.length := by omega
      obtain ⟨fn, tmps, assign, body, hy, hR⟩ := hY _ (i, l[i]?.getD 0) wr hJs (by rw [revP_length]; exact hlt)
      dsimp only at hy
      have e1 : revP l (k + 1) = revP l k ++ [(i, l[i]?.getD 0)] := by rw [revP_succ, hi]
      rw [hi2]
      obtain ⟨v, hv⟩ : ∃ v, l[i]?.getD 0 = v := ⟨_, rfl⟩
      rw [hv] at hcx2 hy hR e1
      clear hcx hbw hv
      gi_wp2
      refine hR.mono ?_
      rintro e W3 (⟨rfl, hJ3, hk3⟩ | ⟨rfl, hJx3⟩)
      · gi_wp2
        go_roundw
        case rel => exact ⟨k + 1, by omega, by congr 1; have : IntKind.i64.wrap ((i : Int) - 1) = (i : Int) - 1 := by rw [IntKind.wrap_i64]; omega
                                               (try rw [this]); omega, by rw [e1]; exact hJ3, KpB.trans hnx hk3⟩
        case measure => simp [intOf]
      · gi_wp2
        refine bodyPost_ret (results_none rfl _ _ _) rfl ?_
        exact ⟨⟨_, rfl⟩, .inr ⟨_, ⟨k + 1, by omega, e1.symm⟩, hJx3⟩⟩
    · obtain rfl : k = l.length := by omega
      rw [show (l.length : Int) - 1 - l.length = -1 by omega]
      gi_wp2
      go_end0
      exact ⟨⟨_, rfl⟩, .inl ⟨_, rfl, hJs⟩⟩
end Go.Proofs.Ytbmjdkbakeckoaa
namespace Go.Proofs.Ytbmjdkbakeckoaa
open Go Go.RowKit Go.Proofs.YtbmjdkbakeckoaaW.PrintWords Go.Proofs.Ytbmjdkbakeckoaa.PRefsAll
set_option maxRecDepth 100000
set_option linter.unusedSimpArgs false
set_option linter.unusedVariables false
set_option maxHeartbeats 4000000
attribute [local go_sem] Oper.semAt_some

/-- A node's cells, at an address written out. -/
theorem node_cells {w : World} {A : Option Addr} {n : Nat} {l : List S47} (h : Kd.C k47 w A n l) (i : Nat) (hi : i < n) :
    ∃ b o A3 c3 A4 c4, A = some ⟨b, o, none⟩ ∧ b < w.heap.size ∧ w.cell? ⟨b, o + i * 5, none⟩ = some (.int .i64 (rd_T47 l i).f0) ∧ w.cell? ⟨b, o + i * 5 + 1, none⟩ = some (.int .i64 (rd_T47 l i).f1) ∧ w.cell? ⟨b, o + i * 5 + 2, none⟩ = some (.string (rd_T47 l i).f2)
      ∧ w.cell? ⟨b, o + i * 5 + 3, none⟩ = some (.slice A3 (rd_T47 l i).f3.length c3) ∧ w.cell? ⟨b, o + i * 5 + 4, none⟩ = some (.slice A4 (rd_T47 l i).f4.length c4) ∧ (rd_T47 l i).f3.length ≤ c3 ∧ Kd.C k51 w A3 (rd_T47 l i).f3.length (rd_T47 l i).f3 ∧ (rd_T47 l i).f4.length ≤ c4 ∧ Kd.C (Kd.int .i64) w A4 (rd_T47 l i).f4.length (rd_T47 l i).f4 := by
  obtain ⟨ad, A3, c3, A4, c4, rfl, h0, h1, h2, h3, h4, h5, h6, h7, h8⟩ := at_T47 h i (by omega) (by omega)
  obtain ⟨ad2, _, _, _, _, e2, g0, _⟩ := at_T47 h 0 (by omega) (by omega)
  injection e2 with e2
  subst e2
  rw [show (0 : Int).toNat * 5 = 0 from rfl, Addr.add_zero'] at g0
  have hsp := World.cell?_spot g0
  obtain ⟨b, o, sp⟩ := ad
  simp only at hsp
  subst hsp
  have ht : ((i : Int)).toNat = i := by omega
  rw [ht] at h0 h1 h2 h3 h4
  have e1 : (⟨b, o, none⟩ : Addr).add (i * 5) = ⟨b, o + i * 5, none⟩ := by unfold Addr.add; split <;> simp_all
  rw [e1] at h0 h1 h2 h3 h4
  exact ⟨b, o, A3, c3, A4, c4, rfl, World.block_lt_of_cell? w _ h0, h0, h1, h2, h3, h4, h5, h6, h7, h8⟩
theorem rd47 (l : List S47) (i : Nat) (h : i < l.length) : l[i]? = some (rd_T47 l i) := by
  unfold rd_T47
  simp [List.getD, h]

theorem bk_lt {w : World} {g : Nat} {o : Obj} (h : w.heap[g]? = some o) : g < w.heap.size := (Array.getElem?_eq_some_iff.1 h).1
theorem bk_cell {w : World} {g : Nat} {t : TypeId} {cs : Array Value} (h : w.heap[g]? = some (.cells cs t (0, 0))) (i : Nat) : w.cell? ⟨g, i, none⟩ = cs[i]? := cell_of_row w g i cs t (0, 0) h
theorem bk_frozen {w : World} {g : Nat} {t : TypeId} {cs : Array Value} (h : w.heap[g]? = some (.cells cs t (0, 0))) (i : Nat) : w.frozen? ⟨g, i, none⟩ = false := by simp [World.frozen?, h]
theorem bk_alloc {w : World} {g : Nat} {o : Obj} (h : w.heap[g]? = some o) (o' : Obj) : (w.alloc o').heap[g]? = some o := (Below.heap_alloc w o' g (bk_lt h)).trans h
theorem bk_below {w w1 : World} {g : Nat} {o : Obj} (h : w.heap[g]? = some o) (hb : Below w.heap.size w w1) : w1.heap[g]? = some o := (hb.block g (bk_lt h)).trans h
theorem bk_new (w : World) (o : Obj) : (w.alloc o).heap[w.heap.size]? = some o := heap_alloc_new w o
theorem cell_alloc {w : World} {a : Addr} {v : Value} (o : Obj) (h : w.cell? a = some v) : (w.alloc o).cell? a = some v :=
  (((Below.refl w.heap.size w).alloc (Nat.le_refl _) o).cell (World.block_lt_of_cell? w a h)).trans h
theorem cell_below {w w' : World} {a : Addr} {v : Value} (hb : Below w.heap.size w w') (h : w.cell? a = some v) : w'.cell? a = some v :=
  (hb.cell (World.block_lt_of_cell? w a h)).trans h
/-- Whatever lay lies as it lay: what is no cells, too. -/
theorem Below.others {w w' : World} (h : Below w.heap.size w w') : KeepsOthers w w' := ⟨h.size, fun k o hk _ => (h.block k (bk_lt hk)).trans hk⟩

/-- Is a node as its kind wants it? -/
def okN (kf : Int → Int) (pl : S47 → Bool) (x : S47) : Bool := (kf x.f0 == x.f4.length || kf x.f0 == -1) && pl x

open Go.Proofs.Ytbmjdkbakeckoaa.Tree in
theorem begin_any (kf : Int → Int) (pl : S47 → Bool) (w0 : World) (A : Option Addr) (c2 : Nat) (l : List S47) (hl : Kd.C k47 w0 A l.length l) (hlen : l.length ≤ 1000) (hks : ∀ x ∈ l, x.f4.length ≤ 1000)
    (hkd : ∀ k W, Calls Try.prog 44 #[.int .i64 k] W fun e w' => e = .returned (.int .i64 (kf k)) ∧ w' = W)
    (hp : ∀ x ∈ l, ∀ A3 c3 A4 c4 W, Below w0.heap.size w0 W → Kd.C k51 W A3 x.f3.length x.f3 → Calls Try.prog 45 #[.agg #[.int .i64 x.f0, .int .i64 x.f1, .string x.f2, .slice A3 x.f3.length c3, .slice A4 x.f4.length c4]] W fun e w' => e = .returned (.bool (pl x)) ∧ Below W.heap.size W w') :
    ∀ (e : Nat), e < l.length → ∀ w, Below w0.heap.size w0 w → Calls Try.prog 35 #[.slice A l.length c2, .int .i64 e] w fun r w' => r = .returned (.int .i64 (beg (okN kf pl) (·.f4) l e)) ∧ Below w.heap.size w w' := by
  intro e
  induction e using Nat.strongRecOn with
  | _ e ih =>
  intro he w hw
  refine (callsIn_wide (n := 3)).1 ?_
  have hbeg := beg_eq (okN kf pl) (·.f4) l (e := (e : Int)) (by omega)
  rw [show ((e : Int)).toNat = e by omega, rd47 l e he] at hbeg
  dsimp only at hbeg
  obtain ⟨β2, o2, A3, c3, A4, c4, rfl, hβ, q0, q1, q2, q3, q4, h5, h6, h7, h8⟩ := node_cells (Kd.C_below hl hw) e he
  have hx := List.mem_of_getElem? (rd47 l e he)
  obtain ⟨x, hxe⟩ : ∃ x, rd_T47 l e = x := ⟨_, rfl⟩
  rw [hxe] at hbeg q0 q1 q2 q3 q4 h5 h6 h7 h8 hx
  obtain ⟨k, n, t, ps, ks⟩ := x
  dsimp only at q0 q1 q2 q3 q4 h5 h6 h7 h8
  have hksl := hks _ hx
  dsimp only at hksl
  obtain ⟨N, hN⟩ : ∃ N, l.length = N := ⟨_, rfl⟩
  rw [hN] at he ih hlen ⊢
  obtain ⟨W, hW⟩ : ∃ W, W = (w.alloc (Obj.cells #[Value.slice (some ⟨β2, o2, none⟩) N c2] 22)).alloc (Obj.cells #[Value.int IntKind.i64 0] 3) := ⟨_, rfl⟩
  have hb : Below w.heap.size w W := by rw [hW]; exact ((Below.refl w.heap.size w).alloc (Nat.le_refl _) _).alloc (by simp) _
  have HW := Lib.hid hW
  have HB := Lib.hid hb
  have HPS := Lib.hid (Kd.C_below h6 hb)
  have HKS := Lib.hid (Kd.C_below h8 hb)
  have q0 := cell_below hb q0
  have q1 := cell_below hb q1
  have q2 := cell_below hb q2
  have q3 := cell_below hb q3
  have q4 := cell_below hb q4
  rw [hW] at q0 q1 q2 q3 q4
  have HP := Lib.hid (hp _ hx)
  have HK := Lib.hid hkd
  have HIH := Lib.hid ih
  have HBEG := Lib.hid hbeg
  have HW0 := Lib.hid hw
  have HX := Lib.hid hβ
  have HBK := Lib.hid (show ∀ b o, A4 = some ⟨b, o, none⟩ → ks.length ≠ 0 → b < w.heap.size by
    intro b o hA hne
    obtain ⟨b', o', hA', hlt, _⟩ := int_cells h8 0 (by omega)
    rw [hA] at hA'
    cases hA'
    exact hlt)
  clear hl hb hW hp hkd ih hbeg hw hks hx h6 h8 hxe hβ
  obtain ⟨g, hg⟩ : ∃ g, beg (okN kf pl) (fun x => x.f4) l = g := ⟨_, rfl⟩
  have HG := Lib.hid (show ∀ k : Int, 0 ≤ k → g k ≤ k by intro k hk; rw [← hg]; exact beg_le _ _ _ hk)
  have HIH2 := Lib.hid (show ∀ (k : Int), 0 ≤ k → k < e → ∀ u, Below w0.heap.size w0 u → Calls Try.prog 35 #[Value.slice (some ⟨β2, o2, none⟩) N c2, Value.int .i64 k] u fun r w' => r = .returned (.int .i64 (g k)) ∧ Below u.heap.size u w' by
    intro k h0 hk u hu
    have := HIH.out k.toNat (by omega) (by omega) u hu
    rw [show ((k.toNat : Nat) : Int) = k by omega, hg] at this
    exact this)
  rw [hg] at HBEG ⊢
  clear HIH hg
  refine callsIn_of_wp_marks Try.func35 rfl trivial ?_ rfl
  simp only [Try.ntmps35, List.size_toArray, List.length_cons, List.length_nil, Nat.reduceAdd, Nat.reduceSub, Array.replicate_succ, Array.replicate_zero, List.push_toArray, List.append_toArray, List.nil_append, List.cons_append]
  gi_wp2
  refine ⟨trivial, ?_⟩
  refine (callsIn_wide.2 (HK.out _ _)).mono ?_
  rintro e' w' ⟨rfl, rfl⟩
  obtain ⟨W2, hW2⟩ : ∃ W2, W2 = W.alloc (Obj.cells #[Value.int IntKind.i64 k, Value.int IntKind.i64 n, Value.string t, Value.slice A3 ps.length c3, Value.slice A4 ks.length c4] 47) := ⟨_, rfl⟩
  have hs : W.heap.size = w.heap.size + 1 + 1 := by rw [HW.out]; simp
  have hb2 : Below w.heap.size w W2 := by rw [hW2]; exact HB.out.alloc HB.out.size _
  have hbW : Below W.heap.size W W2 := by rw [hW2]; exact (Below.refl _ _).alloc (Nat.le_refl _) _
  have k0 : W2.heap[w.heap.size]? = some (.cells #[Value.slice (some ⟨β2, o2, none⟩) N c2] 22) := by
    rw [hW2]
    refine bk_alloc ?_ _
    rw [HW.out]; exact bk_alloc (bk_new _ _) _
  have k1 : W2.heap[w.heap.size + 1]? = some (.cells #[Value.int IntKind.i64 0] 3) := by
    rw [hW2]
    refine bk_alloc ?_ _
    rw [HW.out]; have := bk_new (w.alloc (Obj.cells #[Value.slice (some ⟨β2, o2, none⟩) N c2] 22)) (Obj.cells #[Value.int IntKind.i64 0] 3); rw [World.size_alloc] at this; exact this
  have k2 : W2.heap[w.heap.size + 1 + 1]? = some (.cells #[Value.int IntKind.i64 k, Value.int IntKind.i64 n, Value.string t, Value.slice A3 ps.length c3, Value.slice A4 ks.length c4] 47) := by
    rw [hW2, ← hs]; exact bk_new _ _
  rw [← HW.out, ← hW2]
  have r4 : W2.cell? ⟨w.heap.size + 1 + 1, 4, none⟩ = some (.slice A4 ks.length c4) := (bk_cell k2 4).trans rfl
  have r0 : W2.cell? ⟨w.heap.size + 1 + 1, 0, none⟩ = some (.int .i64 k) := (bk_cell k2 0).trans rfl
  have r1 : W2.cell? ⟨w.heap.size + 1 + 1, 1, none⟩ = some (.int .i64 n) := (bk_cell k2 1).trans rfl
  have r2 : W2.cell? ⟨w.heap.size + 1 + 1, 2, none⟩ = some (.string t) := (bk_cell k2 2).trans rfl
  have r3 : W2.cell? ⟨w.heap.size + 1 + 1, 3, none⟩ = some (.slice A3 ps.length c3) := (bk_cell k2 3).trans rfl
  have d0 : W2.cell? ⟨w.heap.size + 1, 0, none⟩ = some (.int .i64 0) := (bk_cell k1 0).trans rfl
  have f0 : W2.frozen? ⟨w.heap.size + 1, 0, none⟩ = false := bk_frozen k1 0
  have HP2 := Lib.hid (HP.out A3 c3 A4 c4 W2 (HW0.out.trans (hb2.mono HW0.out.size)) (Kd.C_below HPS.out hbW))
  have HKS2 := Lib.hid (Kd.C_below HKS.out hbW)
  have HB2 := Lib.hid hb2
  have K0 := Lib.hid k0
  have K1 := Lib.hid k1
  have K2 := Lib.hid k2
  have hsz2 := hb2.size
  clear q0 q1 q2 q3 q4 hW2 hb2 k0 k1 k2 HW HP HK hs HB HPS HKS hbW
  obtain ⟨kv, hkv⟩ : ∃ v, kf k = v := ⟨_, rfl⟩
  have HBEG2 := HBEG.out
  clear HBEG q0 q1 q2 q3 q4
  rw [hkv]
  by_cases hbad : kv ≠ ks.length ∧ kv ≠ -1
  · obtain ⟨h1, h2⟩ := hbad
    have hbd : okN kf pl ⟨k, n, t, ps, ks⟩ = false := by
      unfold okN
      simp only [hkv]
      simp [h1, h2]
    rw [hbd] at HBEG2
    have HBEG := Lib.hid HBEG2
    have h1' : (kv != (ks.length : Int)) = true := by simp [h1]
    have h2' : (kv != -1) = true := by simp [h2]
    clear HBEG2 hbd h1 h2 hkv
    gi_wp2
    refine ⟨trivial, ?_⟩
    gi_wp2
    exact ⟨.int .i64 (-1), by simp [results, Try.results35, go_sem, d0], by rw [HBEG.out]; simp, HB2.out.setCell (p := ⟨w.heap.size + 1, 0, none⟩) (by simp only; omega) _⟩
  have hgood : okN kf pl ⟨k, n, t, ps, ks⟩ = pl ⟨k, n, t, ps, ks⟩ := by
    unfold okN
    simp only [hkv]
    by_cases h1 : kv = ks.length
    · simp [h1]
    · have h2 : kv = -1 := by by_cases h2 : kv = -1; exact h2; exact absurd ⟨h1, h2⟩ hbad
      simp [h2]
  rw [hgood] at HBEG2
  have HBEG := Lib.hid HBEG2
  clear HBEG2 hgood hkv
  obtain ⟨τ, hτ⟩ : ∃ τ, pl ⟨k, n, t, ps, ks⟩ = τ := ⟨_, rfl⟩
  rw [hτ] at HBEG HP2
  clear hτ
  have hor : kv = ks.length ∨ (kv = -1 ∧ kv ≠ ks.length) := by
    by_cases h1 : kv = ks.length
    · exact .inl h1
    · by_cases h2 : kv = -1
      · exact .inr ⟨h2, h1⟩
      · exact absurd ⟨h1, h2⟩ hbad
  clear hbad
  have hor2 : (kv != (ks.length : Int)) = false ∨ ((kv != (ks.length : Int)) = true ∧ (kv != -1) = false) := by
    rcases hor with h | ⟨h, h'⟩
    · exact .inl (by simp [h])
    · exact .inr ⟨by simp [h'], by simp [h]⟩
  clear hor
  rcases hor2 with hk1 | ⟨hk1, hk2⟩
  all_goals
    gi_wp2
    refine ⟨trivial, ?_⟩
    refine (callsIn_wide.2 HP2.out).mono ?_
    clear HP2
    rintro e' w2 ⟨rfl, hb2⟩
    have hbb := HB2.out.trans (hb2.mono HB2.out.size)
    have g0 := bk_below K0.out hb2
    have g1 := bk_below K1.out hb2
    have g2 := bk_below K2.out hb2
    have s4 : w2.cell? ⟨w.heap.size + 1 + 1, 4, none⟩ = some (.slice A4 ks.length c4) := (bk_cell g2 4).trans rfl
    have d0 : w2.cell? ⟨w.heap.size + 1, 0, none⟩ = some (.int .i64 0) := (bk_cell g1 0).trans rfl
    have f0 : w2.frozen? ⟨w.heap.size + 1, 0, none⟩ = false := bk_frozen g1 0
    have HS := Lib.hid hbb.size
    have HSZ := Lib.hid (bk_lt g2)
    have HKS3 := Lib.hid (Kd.C_below HKS2.out hb2)
    clear r0 r1 r2 r3 r4 hb2 K0 K1 K2 g2 HB2 HKS2
    cases τ
    · gi_wp2
      exact ⟨.int .i64 (-1), by simp [results, Try.results35, go_sem, d0], by rw [HBEG.out]; simp, hbb.setCell (p := ⟨w.heap.size + 1, 0, none⟩) (by simp only; omega) _⟩
    · have HBEG3 := HBEG.out
      rw [if_pos rfl] at HBEG3
      have HBEG4 := Lib.hid HBEG3
      clear HBEG HBEG3
      have s5 := cell_alloc (.cells #[.int .i64 (e : Int)] 3) s4
      gi_wp2
      refine ⟨trivial, ?_⟩
      refine (callsIn_wide.2 (backward_any A4 ks.length c4 _)).mono ?_
      rintro e' w3 ⟨rfl, hw3⟩
      rw [World.size_alloc]
      have hb3 : Below w.heap.size w w3 := by rw [hw3]; exact (hbb.alloc hbb.size _).alloc (by simp; have := HS.out; omega) _
      have hb23 : Below w2.heap.size w2 w3 := by rw [hw3]; exact ((Below.refl w2.heap.size w2).alloc (Nat.le_refl _) _).alloc (by simp) _
      have hsz3 : w3.heap.size = w2.heap.size + 1 + 1 := by rw [hw3]; simp
      have e0 : w3.cell? ⟨w2.heap.size + 1, 0, none⟩ = some (.slice A4 ks.length c4) := by
        rw [hw3]; have := bk_new (w2.alloc (.cells #[.int .i64 (e : Int)] 3)) (.cells #[.slice A4 ks.length c4] 28); rw [World.size_alloc] at this; exact (bk_cell this 0).trans rfl
      have e1 : w3.cell? ⟨w2.heap.size, 0, none⟩ = some (.int .i64 (e : Int)) := by
        rw [hw3]; exact cell_alloc _ ((bk_cell (bk_new w2 (.cells #[.int .i64 (e : Int)] 3)) 0).trans rfl)
      have e1f : w3.frozen? ⟨w2.heap.size, 0, none⟩ = false := by
        rw [hw3]; exact bk_frozen (bk_alloc (bk_new w2 (.cells #[.int .i64 (e : Int)] 3)) _) 0
      have e2 : w3.heap[w.heap.size + 1]? = some (.cells #[Value.int IntKind.i64 0] 3) := by
        rw [hw3]; exact bk_alloc (bk_alloc g1 _) _
      have e5 : w3.cell? ⟨w.heap.size, 0, none⟩ = some (.slice (some ⟨β2, o2, none⟩) N c2) := by
        rw [hw3]; exact (bk_cell (bk_alloc (bk_alloc g0 _) _) 0).trans rfl
      have e3 : w3.cell? ⟨w.heap.size + 1, 0, none⟩ = some (.int .i64 0) := (bk_cell e2 0).trans rfl
      have e4 : w3.frozen? ⟨w.heap.size + 1, 0, none⟩ = false := bk_frozen e2 0
      have HKS4 := Lib.hid (Kd.C_below HKS3.out hb23)
      have HHB3 := Lib.hid hb3
      clear hw3 e2 g0 g1 s4 s5 d0 f0 HKS3 hb23
      gi_wp2
      refine range_own (α := Nat × Int) rfl (by omega) (gf := 58) (lb := #[.pointer (some ⟨w2.heap.size + 1, 0, none⟩)]) rfl trivial (enters_of Try.func58 (by kernel_rfl) rfl)
        (back_stops 2 (w2.heap.size + 1) w.heap.size (by omega) A4 c4 ks w3 HKS4.out hksl hb3.size HBK.out (by omega) e0) KpB.trans (KpB.put hb3.size) (Below.refl _ _) (fun _ => rfl)
        (fun pre W => ((∃ i : Int, (0 ≤ i ∧ i ≤ e ∧ ∀ rest, backF g (pre.map (·.2) ++ rest) e = backF g rest i) ∧ W.cell? ⟨w2.heap.size, 0, none⟩ = some (.int .i64 i)) ∧ W.frozen? ⟨w2.heap.size, 0, none⟩ = false
          ∧ W.cell? ⟨w.heap.size + 1, 0, none⟩ = some (.int .i64 0) ∧ W.frozen? ⟨w.heap.size + 1, 0, none⟩ = false ∧ W.cell? ⟨w.heap.size, 0, none⟩ = some (.slice (some ⟨β2, o2, none⟩) N c2)) ∧ Below w.heap.size w W)
        (fun c pre W => (c = .ret ∧ (∀ rest, backF g (pre.map (·.2) ++ rest) e = -1) ∧ W.cell? ⟨w.heap.size + 1, 0, none⟩ = some (.int .i64 (-1))) ∧ Below w.heap.size w W)
        (OwnFrom.and (Own.from (fun s A B row hs hg hr => by
            obtain ⟨⟨i, hi, hc⟩, h2, h3, h4, h5⟩ := hs
            exact ⟨⟨i, hi, cell_kept hc hg hr⟩, (frozen_kept hc hg hr).trans h2, cell_kept h3 hg hr, (frozen_kept h3 hg hr).trans h4, cell_kept h5 hg hr⟩) _) (ownFrom_below (Nat.le_refl _) hb3.size))
        (fun c => OwnFrom.and (Own.from (fun s A B row hs hg hr => ⟨hs.1, hs.2.1, cell_kept hs.2.2 hg hr⟩) _) (ownFrom_below (Nat.le_refl _) hb3.size))
        ⟨⟨⟨e, ⟨by omega, by omega, fun rest => rfl⟩, e1⟩, e1f, e3, e4, e5⟩, hb3⟩
        ?ha ?done ?stop
      case ha =>
        apply Exists.intro
        apply And.intro
        · intro lp x W K hK
          gi_wp2
          exact hK
        · rintro lp pre ⟨j, k'⟩ W ⟨⟨⟨i, ⟨hi0, hie, hR⟩, hF⟩, hFf, hc1, hf1, hbx⟩, hB⟩ _
          dsimp only
          have hR2 : ∀ rest, backF g ((pre ++ [(j, k')]).map (·.2) ++ rest) e = backF g (k' :: rest) i := by
            intro rest
            rw [List.map_append, List.append_assoc]
            exact hR _
          have HR2 := Lib.hid hR2
          have HKS5 := HKS4
          have hsB := Lib.hid hB.size
          clear hR hR2
          by_cases hc0 : k' < 0
          · have hbk : ∀ rest, backF g (k' :: rest) i = -1 := fun rest => by simp only [backF]; rw [if_pos (.inl hc0)]
            have HBK2 := Lib.hid hbk
            clear hbk
            gi_wp2
            exact ⟨KeepsOthers.setCell _ _ _, ⟨rfl, fun rest => (HR2.out rest).trans (HBK2.out rest), World.cell?_setCell_same' _ _ _ (by rw [hc1]; rfl)⟩, hB.setCell (p := ⟨w.heap.size + 1, 0, none⟩) (by simp only; omega) _⟩
          by_cases hc2 : k' = i - 1
          · subst hc2
            obtain ⟨gk, hgk⟩ : ∃ gk, g (i - 1) = gk := ⟨_, rfl⟩
            have hgle := HG.out (i - 1) (by omega)
            rw [hgk] at hgle
            have hcall := HIH2.out (i - 1) (by omega) (by omega) W (HW0.out.trans (hB.mono HW0.out.size))
            rw [hgk] at hcall
            have HC := Lib.hid hcall
            have hbk : ∀ rest, backF g ((i - 1) :: rest) i = if gk < 0 then -1 else backF g rest gk := fun rest => by
              simp only [backF]; rw [if_neg (by omega), hgk]
            have HBK2 := Lib.hid hbk
            have hnw : ¬ i - 1 < 0 := hc0
            clear hbk hcall hgk
            gi_wp2
            refine ⟨trivial, ?_⟩
            have HC2 : CallsIn (Fence.wide.inRound lp) 0 Try.prog 35 #[Value.slice (some ⟨β2, o2, none⟩) N c2, Value.int .i64 (i - 1)] W fun r w' => r = .returned (.int .i64 gk) ∧ Below W.heap.size W w' := callsIn_wide.2 HC.out
            with_reducible refine HC2.mono ?_
            clear HC HC2
            rintro e' W2 ⟨rfl, hb2⟩
            have hko := Lib.hid (Below.others hb2)
            have hF' := cell_below hb2 hF
            have hFf' : W2.frozen? ⟨w2.heap.size, 0, none⟩ = false := (hb2.frozen (p := ⟨w2.heap.size, 0, none⟩) (World.block_lt_of_cell? W _ hF)).trans hFf
            have hc1' := cell_below hb2 hc1
            have hf1' : W2.frozen? ⟨w.heap.size + 1, 0, none⟩ = false := (hb2.frozen (p := ⟨w.heap.size + 1, 0, none⟩) (World.block_lt_of_cell? W _ hc1)).trans hf1
            have hbx' := cell_below hb2 hbx
            have hBB := hB.trans (hb2.mono hB.size)
            have HKP := Lib.hid (show KpB w.heap.size (w2.heap.size + 1) (Value.slice A4 ks.length c4) W W2 from ⟨hb2.mono hB.size, fun q => cell_below hb2 q⟩)
            clear hF hFf hc1 hf1 hbx hb2
            have hnf : w2.heap.size ≠ w.heap.size + 1 := by have := HSZ.out; omega
            have hnb : w2.heap.size ≠ w.heap.size := by have := HSZ.out; omega
            have hV1 : (W2.setCell ⟨w2.heap.size, 0, none⟩ (.int .i64 gk)).cell? ⟨w.heap.size + 1, 0, none⟩ = some (.int .i64 0) := by
              rw [World.cell?_setCell_far _ _ _ _ (by exact hnf)]; exact hc1'
            have hV2 : (W2.setCell ⟨w2.heap.size, 0, none⟩ (.int .i64 gk)).cell? ⟨w.heap.size, 0, none⟩ = some (.slice (some ⟨β2, o2, none⟩) N c2) := by
              rw [World.cell?_setCell_far _ _ _ _ (by exact hnb)]; exact hbx'
            have hV3 : (W2.setCell ⟨w2.heap.size, 0, none⟩ (.int .i64 gk)).cell? ⟨w2.heap.size, 0, none⟩ = some (.int .i64 gk) := World.cell?_setCell_same' _ _ _ (by rw [hF']; rfl)
            have hBV := Lib.hid (hBB.setCell (p := ⟨w2.heap.size, 0, none⟩) HS.out (.int .i64 gk))
            have hKV := Lib.hid (hko.out.trans (KeepsOthers.setCell W2 ⟨w2.heap.size, 0, none⟩ (.int .i64 gk)))
            have HKV := Lib.hid (show KpB w.heap.size (w2.heap.size + 1) (Value.slice A4 ks.length c4) W (W2.setCell ⟨w2.heap.size, 0, none⟩ (.int .i64 gk)) from
              ⟨HKP.out.1.setCell (p := ⟨w2.heap.size, 0, none⟩) HS.out _, fun q => by rw [World.cell?_setCell_far _ _ _ _ (by simp)]; exact HKP.out.2 q⟩)
            clear hnf hnb hbx' hBB HKP hko
            by_cases hneg : gk < 0
            · gi_wp2
              exact ⟨hKV.out.trans (KeepsOthers.setCell _ _ _), ⟨rfl, fun rest => (HR2.out rest).trans ((HBK2.out rest).trans (if_pos hneg)), World.cell?_setCell_same' _ _ _ (by rw [hV1]; rfl)⟩, hBV.out.setCell (p := ⟨w.heap.size + 1, 0, none⟩) (by simp only; omega) _⟩
            · gi_wp2
              exact ⟨hKV.out, HKV.out, ⟨⟨gk, ⟨by omega, by omega, fun rest => (HR2.out rest).trans ((HBK2.out rest).trans (if_neg (by omega)))⟩, hV3⟩, by rw [World.frozen?_setCell]; exact hFf', hV1, by rw [World.frozen?_setCell]; exact hf1', hV2⟩, hBV.out⟩
          · have hbk : ∀ rest, backF g (k' :: rest) i = -1 := fun rest => by simp only [backF]; rw [if_pos]; exact .inr hc2
            have HBK2 := Lib.hid hbk
            have hne : (k' != i - 1) = true := by simp [hc2]
            clear hbk
            gi_wp2
            exact ⟨KeepsOthers.setCell _ _ _, ⟨rfl, fun rest => (HR2.out rest).trans (HBK2.out rest), World.cell?_setCell_same' _ _ _ (by rw [hc1]; rfl)⟩, hB.setCell (p := ⟨w.heap.size + 1, 0, none⟩) (by simp only; omega) _⟩
      case done =>
        rintro D ys W hD rfl ⟨⟨⟨i, ⟨hi0, hie, hR⟩, hF⟩, hFf, hc1, hf1, hbx⟩, hB⟩ hK
        have hi := hR []
        rw [List.append_nil, revP_snd] at hi
        have hfin : g e = i := by rw [HBEG4.out, hi]; rfl
        clear hi hR
        have HFIN := Lib.hid hfin
        have HSB := Lib.hid hb3.size
        have HLT := Lib.hid hsz3
        clear hfin hsz3
        gi_wp2
        have hK' := (KeepsOthers.setCell W ⟨w.heap.size + 1, 0, none⟩ (.int .i64 i)).same D _ hK rfl
        have h5 : (W.setCell ⟨w.heap.size + 1, 0, none⟩ (.int .i64 i)).cell? ⟨w.heap.size + 1, 0, none⟩ = some (.int .i64 i) := World.cell?_setCell_same' _ _ _ (by rw [hc1]; rfl)
        have h6 := cell_kept h5 (grownBy_putObj' _ D (.deferred none)) (fun r e => by cases e; exact ⟨_, hK', rfl⟩)
        refine ⟨by simp, .inl ⟨_, _, rfl, run_takeDeferred hK', ?_⟩⟩
        exact ⟨.int .i64 i, by simp [results, Try.results35, go_sem, h6], by rw [HFIN.out], (hB.setCell (p := ⟨w.heap.size + 1, 0, none⟩) (by simp only; omega) _).trans (belowK_b (w := w) (Nat.le_refl _) _ D _ _ (by have := HSB.out; have := HLT.out; omega) hK' rfl rfl)⟩
      case stop =>
        rintro D c pre W hD ⟨k', hk', rfl⟩ ⟨⟨rfl, hR, hc1⟩, hB⟩ hK
        obtain ⟨rest, hrest⟩ := revP_pre ks hk'
        have hi := hR (rest.map (·.2))
        rw [← List.map_append, ← hrest, revP_snd] at hi
        have hfin : g e = -1 := by rw [HBEG4.out, hi]
        have HFIN := Lib.hid hfin
        have HSB := Lib.hid hb3.size
        clear hfin hi hrest hR
        gi_wp2
        have h6 := cell_kept hc1 (grownBy_putObj' _ D (.deferred none)) (fun r e => by cases e; exact ⟨_, hK, rfl⟩)
        refine ⟨by simp, .inl ⟨_, _, rfl, run_takeDeferred hK, ?_⟩⟩
        exact ⟨.int .i64 (-1), by simp [results, Try.results35, go_sem, h6], by rw [HFIN.out], hB.trans (belowK_b (w := w) (Nat.le_refl _) _ D _ _ (by have := HSB.out; omega) hK rfl rfl)⟩
end Go.Proofs.Ytbmjdkbakeckoaa
namespace Go.Proofs.Ytbmjdkbakeckoaa
open Go Go.RowKit Go.Proofs.YtbmjdkbakeckoaaW.PrintWords Go.Proofs.Ytbmjdkbakeckoaa.PRefsAll Go.Proofs.Ytbmjdkbakeckoaa.Tree
set_option maxRecDepth 100000
set_option linter.unusedSimpArgs false
set_option linter.unusedVariables false
set_option maxHeartbeats 4000000

theorem tree_any (g : Int) (w : World) (A : Option Addr) (c n : Nat) (hn : n ≤ 1000)
    (hb : n ≠ 0 → Calls Try.prog 35 #[.slice A n c, .int .i64 ((n : Int) - 1)] w fun r w' => r = .returned (.int .i64 g) ∧ Below w.heap.size w w') :
    Calls Try.prog 19 #[.slice A n c] w fun r w' => r = .returned (.bool (n != 0 && g == 0)) ∧ Below w.heap.size w w' := by
  by_cases h0 : n = 0
  · subst h0
    clear hb
    go_enter Try.func19, Try.ntmps19
    go_wp2_with fail
    go_ret
    exact ⟨rfl, Below.refl _ _⟩
  · have HB := Lib.hid (hb h0)
    clear hb
    have h1 : (0 : Int) < n := by omega
    go_enter Try.func19, Try.ntmps19
    go_wp2_with fail
    refine HB.out.mono ?_
    rintro e w2 ⟨rfl, hb2⟩
    clear HB
    by_cases hg : g = 0
    · subst hg
      go_wp2_with fail
      go_ret
      exact ⟨by simp [h0], hb2⟩
    · have hg2 : (g == 0) = false := by simp [hg]
      go_wp2_with fail
      go_ret
      exact ⟨by simp [hg2], hb2⟩

theorem cell_drawn1 {W : World} {p : Addr} {v : Value} (h : W.cell? p = some v) : W.drew.cell? p = some v := h
/-- The document's stack, where it lies. -/
def StAt (w : World) (v : Value) (st : List Int) : Prop :=
  (v = .slice none 0 0 ∧ st = []) ∨ ∃ g cap, v = .slice (some ⟨g, 0, none⟩) st.length cap ∧ st.length ≤ cap ∧ cap ≤ maxLen ∧ ∀ j x, st[j]? = some x → w.cell? ⟨g, j, none⟩ = some (.int .i64 x)
theorem StAt.below {w w' : World} {v : Value} {st : List Int} (h : StAt w v st) (hb : Below w.heap.size w w') : StAt w' v st := by
  rcases h with h | ⟨g, cap, h1, h2, h3, h4⟩
  · exact .inl h
  · exact .inr ⟨g, cap, h1, h2, h3, fun j x hj => cell_below hb (h4 j x hj)⟩
theorem StAt.of_own {w : World} {base : Nat} {v : Value} {st : List Int} {n : Nat} {us : List Value} (h : w.ownsRow base 3 1 v n us) (hu : us = st.map (Value.int .i64)) : StAt w v st := by
  subst hu
  obtain ⟨hl, h⟩ := h
  rw [List.length_map] at hl
  obtain rfl : n = st.length := by omega
  rcases h with ⟨rfl, h⟩ | ⟨g, cap, cur, rfl, hg, hh, h1, h2, h3, h4⟩
  · exact .inl ⟨rfl, List.eq_nil_of_length_eq_zero h⟩
  · refine .inr ⟨g, cap, rfl, h1, h2, fun j x hj => ?_⟩
    rw [bk_cell hh, ← Array.getElem?_toList]
    have hjl : j < st.length := (List.getElem?_eq_some_iff.1 hj).1
    have := congrArg (·[j]?) h4
    simp only [Nat.mul_one, List.getElem?_map, hj] at this
    rw [List.getElem?_take_of_lt hjl] at this
    exact this
theorem append_olds {w2 wr : World} {g p : Nat} {st : List Int} (h : ∀ j x, st[j]? = some x → w2.cell? ⟨g, j, none⟩ = some (.int .i64 x)) (hb : Below w2.heap.size w2 wr) (o : Obj) :
    ∀ b, (some ⟨g, 0, none⟩ : Option Addr) = some b → ∀ j u, ((st.take p).map (Value.int .i64))[j]? = some u → (wr.alloc o).cell? (b.add j) = some u := by
  rintro b hbq j u hu
  cases hbq
  rw [List.getElem?_map] at hu
  obtain ⟨x, hx, rfl⟩ := Option.map_eq_some_iff.1 hu
  rw [List.getElem?_take] at hx
  split at hx
  · have := cell_alloc o (cell_below hb (h j x hx))
    have e : (⟨g, 0, none⟩ : Addr).add j = ⟨g, j, none⟩ := by unfold Addr.add; split <;> simp_all
    rw [e]
    exact this
  · cases hx
theorem new_one (wr : World) (v : Value) (t : TypeId) : ∀ j u, [v][j]? = some u → (wr.alloc (.cells #[v] t)).cell? ((⟨wr.heap.size, 0, none⟩ : Addr).add j) = some u := by
  intro j u hu
  cases j with
  | zero =>
    rw [Addr.add_zero']
    obtain rfl : v = u := by simpa using hu
    exact (bk_cell (bk_new wr (.cells #[v] t)) 0).trans rfl
  | succ j => simp at hu
theorem rev_split {st a b : List Int} (h : st = a ++ b) : st.reverse.take b.length = b.reverse ∧ st.reverse.drop b.length = a.reverse := by
  subst h
  rw [List.reverse_append]
  have e : b.length = b.reverse.length := by simp
  rw [e]
  exact ⟨List.take_left, List.drop_left⟩

theorem tree1_any (af : Int → Int) (lf : S47 → Bool) (w : World) (A : Option Addr) (c : Nat) (l : List S47) (hl : Kd.C k47 w A l.length l) (hlen : l.length ≤ 1000) (hks : ∀ x ∈ l, x.f4.length ≤ 1000)
    (ha : ∀ k W, Calls Try.prog 38 #[.int .i64 k] W fun e w' => e = .returned (.int .i64 (af k)) ∧ w' = W)
    (hp : ∀ x ∈ l, ∀ A3 c3 A4 c4 W, x.f3.length ≤ c3 → x.f4.length ≤ c4 → Kd.C k51 W A3 x.f3.length x.f3 → Kd.C (Kd.int .i64) W A4 x.f4.length x.f4 → Calls Try.prog 39 #[.agg #[.int .i64 x.f0, .int .i64 x.f1, .string x.f2, .slice A3 x.f3.length c3, .slice A4 x.f4.length c4]] W fun e w' => e = .returned (.bool (lf x)) ∧ Below W.heap.size W w') :
    Calls Try.prog 27 #[.slice A l.length c] w fun r w' => r = .returned (.bool (runS (okN af lf) (·.f4) l 0 [])) ∧ Below w.heap.size w w' := by
  have HL := Lib.hid hl
  have HA := Lib.hid ha
  have HP := Lib.hid hp
  have HKS := Lib.hid hks
  obtain ⟨R, hR⟩ : ∃ R, runS (okN af lf) (·.f4) l 0 [] = R := ⟨_, rfl⟩
  rw [hR]
  have HR := Lib.hid hR
  clear hl ha hp hks hR
  go_enter Try.func27, Try.ntmps27
  go_wp2_with fail
  go_loopw [3, 4] (fun sv iv wr => ∃ (i : Nat) (st : List Int), i ≤ l.length ∧ iv = .int .i64 i ∧ st.length ≤ i ∧ runS (okN af lf) (·.f4) (l.drop i) i st.reverse = R ∧ StAt wr sv st ∧ Below w.heap.size w wr) (fun _ iv _ => l.length - (intOf iv).toNat)
  case atStart => exact ⟨0, [], by omega, rfl, by simp, HR.out, .inl ⟨rfl, rfl⟩, Below.refl _ _⟩
  case round =>
    obtain ⟨i, st, hi, rfl, hsti, hRun, hSt, hb⟩ := hrel
    have HRun := Lib.hid hRun
    clear hRun
    by_cases hlt : i < l.length
    · obtain ⟨β, o, A3, c3, A4, c4, rfl, hβ, q0, q1, q2, q3, q4, h5, h6, h7, h8⟩ := node_cells (Kd.C_below HL.out hb) i hlt
      have hrd := rd47 l i hlt
      have hdr : l.drop i = rd_T47 l i :: l.drop (i + 1) := by
        rw [List.drop_eq_getElem_cons hlt]
        congr 1
        exact Option.some.inj ((List.getElem?_eq_getElem hlt).symm.trans hrd)
      obtain ⟨x, hx⟩ : ∃ x, rd_T47 l i = x := ⟨_, rfl⟩
      rw [hx] at q0 q1 q2 q3 q4 h5 h6 h7 h8 hdr hrd
      have hRun := HRun.out
      rw [hdr] at hRun
      simp only [runS] at hRun
      have hmem := List.mem_of_getElem? hrd
      have hP := HP.out x hmem
      have hks := HKS.out x hmem
      obtain ⟨k, n, t, ps, ks⟩ := x
      dsimp only at q0 q1 q2 q3 q4 h5 h6 h7 h8 hRun hP hks
      have HRun2 := Lib.hid hRun
      have HP2 := Lib.hid hP
      have H6 := Lib.hid h6
      have H8 := Lib.hid h8
      clear hRun hP h6 h8 hdr hrd hmem hx HRun
      have HSt := Lib.hid hSt
      clear hSt
      go_wp2_with fail
      refine (HA.out _ _).mono ?_
      rintro e w' ⟨rfl, rfl⟩
      obtain ⟨W, hW⟩ : ∃ W, W = wr.alloc (Obj.cells #[Value.int IntKind.i64 k, Value.int IntKind.i64 n, Value.string t, Value.slice A3 ps.length c3, Value.slice A4 ks.length c4] 47) := ⟨_, rfl⟩
      have hbW : Below wr.heap.size wr W := by rw [hW]; exact (Below.refl _ _).alloc (Nat.le_refl _) _
      have hbb := hb.trans (hbW.mono hb.size)
      have k2 : W.heap[wr.heap.size]? = some (.cells #[Value.int IntKind.i64 k, Value.int IntKind.i64 n, Value.string t, Value.slice A3 ps.length c3, Value.slice A4 ks.length c4] 47) := by
        rw [hW]; exact bk_new _ _
      rw [← hW]
      have r4 : W.cell? ⟨wr.heap.size, 4, none⟩ = some (.slice A4 ks.length c4) := (bk_cell k2 4).trans rfl
      have r0 : W.cell? ⟨wr.heap.size, 0, none⟩ = some (.int .i64 k) := (bk_cell k2 0).trans rfl
      have r1 : W.cell? ⟨wr.heap.size, 1, none⟩ = some (.int .i64 n) := (bk_cell k2 1).trans rfl
      have r2 : W.cell? ⟨wr.heap.size, 2, none⟩ = some (.string t) := (bk_cell k2 2).trans rfl
      have r3 : W.cell? ⟨wr.heap.size, 3, none⟩ = some (.slice A3 ps.length c3) := (bk_cell k2 3).trans rfl
      have H6W := Lib.hid (Kd.C_below H6.out hbW)
      have H8W := Lib.hid (Kd.C_below H8.out hbW)
      have HStW := Lib.hid (HSt.out.below hbW)
      have HP3 := Lib.hid (HP2.out A3 c3 A4 c4 W h5 h7 H6W.out H8W.out)
      have K2 := Lib.hid k2
      have HBB := Lib.hid hbb
      clear q0 q1 q2 q3 q4 hW hbW hb k2 H6 H8 HSt HP2 H6W hbb
      obtain ⟨kv, hkv⟩ : ∃ v, af k = v := ⟨_, rfl⟩
      rw [hkv]
      obtain ⟨m, hm⟩ : ∃ m, ks.length = m := ⟨_, rfl⟩
      rw [hm] at r4 HP3 K2 hks h7
      have HM := Lib.hid hm
      clear hm
      by_cases hbad : kv ≠ m ∧ kv ≠ -1
      · obtain ⟨h1, h2⟩ := hbad
        have hbd : okN af lf ⟨k, n, t, ps, ks⟩ = false := by
          unfold okN
          simp only [hkv, HM.out]
          simp [h1, h2]
        have hRR := Lib.hid <| show false = R from by
          have := HRun2.out
          rw [hbd] at this
          simpa using this
        have h2' : (kv == -1) = false := by simp [h2]
        have h1' : (kv != (m : Int)) = true := by simp [h1]
        by_cases h3 : kv < 0
        · go_wp2_with fail
          go_ret
          exact ⟨by rw [← hRR.out]; rfl, HBB.out⟩
        · go_wp2_with fail
          go_ret
          exact ⟨by rw [← hRR.out]; rfl, HBB.out⟩
      have hgood : okN af lf ⟨k, n, t, ps, ks⟩ = lf ⟨k, n, t, ps, ks⟩ := by
        unfold okN
        simp only [hkv, HM.out]
        by_cases h1 : kv = m
        · simp [h1]
        · have h2 : kv = -1 := by by_cases h2 : kv = -1; exact h2; exact absurd ⟨h1, h2⟩ hbad
          simp [h2]
      have hRun3 := HRun2.out
      rw [hgood] at hRun3
      have HRun := Lib.hid hRun3
      clear hRun3 HRun2 hgood hkv
      obtain ⟨τ, hτ⟩ : ∃ τ, lf ⟨k, n, t, ps, ks⟩ = τ := ⟨_, rfl⟩
      rw [hτ] at HRun HP3
      clear hτ
      have hor : (kv == -1) = true ∨ (kv == -1) = false ∧ kv = m := by
        by_cases h2 : kv = -1
        · exact .inl (by simp [h2])
        · exact .inr ⟨by simp [h2], by by_cases h1 : kv = m; exact h1; exact absurd ⟨h1, h2⟩ hbad⟩
      clear hbad
      by_cases hmt : st.length < m
      · have hRR := Lib.hid <| show false = R from by
          have := HRun.out
          rw [if_neg (by
            rintro ⟨_, hq⟩
            have := congrArg List.length hq
            have hm := HM.out
            simp at this
            omega)] at this
          exact this
        rcases hor with h2' | ⟨h2', rfl⟩
        all_goals
          rcases HStW.out with ⟨rfl, rfl⟩ | ⟨g, cap, rfl, hs1, hs2, hs3⟩
          all_goals
            go_wp2_with fail
            go_ret
            exact ⟨by rw [← hRR.out]; rfl, HBB.out⟩
      cases τ
      · have hRR := Lib.hid <| show false = R from by
          have := HRun.out
          simpa using this
        rcases HStW.out with ⟨rfl, rfl⟩ | ⟨g, cap, rfl, hs1, hs2, hs3⟩
        · obtain rfl : m = 0 := by simpa using hmt
          clear hmt
          rcases hor with h2' | ⟨h2', rfl⟩
          all_goals
            go_wp2_with fail
            refine HP3.out.mono ?_
            rintro e w2 ⟨rfl, hb2⟩
            go_wp2_with fail
            go_ret
            exact ⟨by rw [← hRR.out]; rfl, HBB.out.trans (hb2.mono HBB.out.size)⟩
        · have HS3 := Lib.hid hs3
          clear hs3
          rcases hor with h2' | ⟨h2', rfl⟩
          all_goals
            go_wp2_with fail
            refine HP3.out.mono ?_
            rintro e w2 ⟨rfl, hb2⟩
            go_wp2_with fail
            go_ret
            exact ⟨by rw [← hRR.out]; rfl, HBB.out.trans (hb2.mono HBB.out.size)⟩
      · rcases HStW.out with ⟨rfl, rfl⟩ | ⟨g, cap, rfl, hs1, hs2, hs3⟩
        · obtain rfl : m = 0 := by simpa using hmt
          clear hmt
          rcases hor with h2' | ⟨h2', rfl⟩
          all_goals
            go_wp2_with fail
            refine HP3.out.mono ?_
            rintro e w2 ⟨rfl, hb2⟩
            have HB3 := Lib.hid (HBB.out.trans (hb2.mono HBB.out.size))
            clear hb2
            go_wp2_with fail
            go_loopw [7] (fun jv w' => jv = .int .i64 0 ∧ w' = w2) (fun _ _ => 0)
            case atStart => exact ⟨rfl, rfl⟩
            case round =>
              obtain ⟨rfl, rfl⟩ := hrel
              go_wp2_with fail
              go_roundw
              case rel =>
                refine ⟨i + 1, [(i : Int)], by omega, by go_num, by simp, ?_, .inr ⟨_, _, rfl, grownCap_ge wr 1 0 3, grownCap_le_maxLen wr 1 0 3 (by decide), fun j x hj => ?_⟩, ?_⟩
                · have := HRun.out
                  have hm := List.eq_nil_of_length_eq_zero HM.out
                  subst hm
                  simpa using this
                · obtain ⟨rfl, rfl⟩ : j = 0 ∧ x = i := by
                    cases j with
                    | zero => exact ⟨rfl, by simpa using hj.symm⟩
                    | succ j => simp at hj
                  have h9 := bk_new (wr.alloc (Obj.cells #[Value.int IntKind.i64 i] 3)) (Obj.cells (#[Value.int IntKind.i64 i] ++ Builtin.zeroCells #[Value.int IntKind.i64 0] (grownCap wr 1 0 3 - 1)) 3)
                  rw [World.size_alloc] at h9
                  have h10 : (#[Value.int IntKind.i64 (i : Int)] ++ Builtin.zeroCells #[Value.int IntKind.i64 0] (grownCap wr 1 0 3 - 1))[0]? = some (.int .i64 i) := by
                    rw [Array.getElem?_append_left (by simp)]; rfl
                  exact cell_drawn1 ((bk_cell h9 0).trans h10)
                · exact ((HB3.out.alloc HB3.out.size _).alloc (by simp; have := HB3.out.size; omega) _).drew
              case measure => simp [intOf]; omega
        · obtain ⟨p, hp⟩ : ∃ p, st.length = p + m := ⟨st.length - m, by omega⟩
          have hpm : p + m ≤ 1000 := by omega
          rw [hp] at hs1 ⊢
          have HS3 := Lib.hid hs3
          have HPm := Lib.hid hp
          clear hs3 hmt hp
          rcases hor with h2' | ⟨h2', rfl⟩
          all_goals
            go_wp2_with fail
            refine HP3.out.mono ?_
            rintro e w2 ⟨rfl, hb2⟩
            have HB3 := Lib.hid (HBB.out.trans (hb2.mono HBB.out.size))
            have r4 := cell_below hb2 r4
            have HST := Lib.hid (show ∀ j x, st[j]? = some x → w2.cell? ⟨g, j, none⟩ = some (.int .i64 x) from fun j x hj => cell_below hb2 (HS3.out j x hj))
            have HKD := Lib.hid (Kd.C_below H8W.out hb2)
            clear hb2 HS3
            go_wp2_with fail
            go_loopw [7] (fun jv w' => ∃ j : Nat, j ≤ m ∧ jv = .int .i64 j ∧ (∀ q, q < j → st[p + q]? = ks[q]?) ∧ Below w2.heap.size w2 w') (fun jv _ => m - (intOf jv).toNat)
            case atStart => exact ⟨0, by omega, rfl, fun q hq => absurd hq (by omega), Below.refl _ _⟩
            case round =>
              obtain ⟨j, hj, rfl, hq, hb4⟩ := hrel
              have HQ := Lib.hid hq
              clear hq
              by_cases hjm : j < m
              · obtain ⟨a1, ha1⟩ : ∃ a1, st[p + j]? = some a1 := ⟨_, List.getElem?_eq_getElem (by have := HPm.out; omega)⟩
                obtain ⟨a2, ha2⟩ : ∃ a2, ks[j]? = some a2 := ⟨_, List.getElem?_eq_getElem (by have := HM.out; omega)⟩
                obtain ⟨b4, o4, rfl, hb4l, hc4⟩ := int_cells HKD.out j (by have := HM.out; omega)
                rw [ha2, Option.getD_some] at hc4
                have hc5 := cell_below hb4 hc4
                have hc6 := cell_below hb4 (HST.out _ _ ha1)
                have r5 := cell_below hb4 r4
                have HA1 := Lib.hid ha1
                have HA2 := Lib.hid ha2
                clear ha1 ha2 hc4 hb4l
                have hpj : p + j < p + m := by omega
                by_cases hab : a1 = a2
                · subst hab
                  go_wp2_with fail
                  go_region
                  go_wp2_with fail
                  go_roundw
                  case rel =>
                    refine ⟨j + 1, by omega, by go_num, fun q hq => ?_, hb4.drew⟩
                    by_cases hqj : q < j
                    · exact HQ.out q hqj
                    · obtain rfl : q = j := by omega
                      exact HA1.out.trans HA2.out.symm
                  case measure => simp [intOf]; omega
                · have hRR := Lib.hid <| show false = R from by
                    have := HRun.out
                    rw [if_neg (by
                      rintro ⟨_, hq⟩
                      have hq2 := congrArg (·[m - 1 - j]?) hq
                      have hm := HM.out
                      have hpm := HPm.out
                      simp only [List.getElem?_take_of_lt (show m - 1 - j < ks.length by omega)] at hq2
                      rw [List.getElem?_reverse (by omega), List.getElem?_reverse (by omega)] at hq2
                      rw [show ks.length - 1 - (m - 1 - j) = j by omega, show st.length - 1 - (m - 1 - j) = p + j by omega, HA1.out, HA2.out] at hq2
                      exact hab (Option.some.inj hq2).symm)] at this
                    exact this
                  have hab2 : (a1 != a2) = true := by simp [hab]
                  go_wp2_with fail
                  go_region
                  go_wp2_with fail
                  go_ret
                  exact ⟨by rw [← hRR.out]; rfl, HB3.out.trans ((hb4.drew).mono HB3.out.size)⟩
              · obtain rfl : j = m := by omega
                clear hjm
                obtain ⟨ti, hti, htz, hts, htb⟩ := info_parts info3
                go_wp2_with ((with_reducible refine gate_builtin (b := .append) (xs := #[.tmp 75, .tmp 77]) rfl ?_); at_builtin; refine wpList_append_grows _ rfl (.tmp 75) (.tmp 77) 28 rfl 3 ti (.int .i64 0) 1 8 Try.underlying28 hti htz hts htb rfl (by decide) (some ⟨g, 0, none⟩) p p ((st.take p).map (Value.int .i64)) rfl (by simp) ?aL ?aH ⟨wr.heap.size, 0, none⟩ 1 1 [.int .i64 i] rfl rfl ?aN ?aO (by omega) (by simp only [maxLen]; omega) (by omega) ?_; (case aL => have := HPm.out; simp; omega); (case aH => exact append_olds HST.out hb4 _); (case aN => exact new_one wr _ 3); (case aO => intro u hu; simp at hu; subst hu; rfl); intro v' w' hown hgr)
                go_roundw
                case rel =>
                  have hst : st = st.take p ++ ks := by
                    have h1 := HQ.out
                    have h2 := HM.out
                    have h3 := HPm.out
                    conv => lhs; rw [← List.take_append_drop p st]
                    congr 1
                    apply List.ext_getElem?
                    intro q
                    rw [List.getElem?_drop]
                    by_cases hqj : q < j
                    · exact h1 q hqj
                    · rw [List.getElem?_eq_none (by omega), List.getElem?_eq_none (by omega)]
                  refine ⟨i + 1, st.take p ++ [(i : Int)], by omega, by go_num, ?_, ?_, StAt.of_own hown (by simp), ?_⟩
                  · have := List.length_take_le p st
                    have h3 := HPm.out
                    simp
                    omega
                  · have h4 := HRun.out
                    obtain ⟨h6, h7⟩ := rev_split hst
                    rw [if_pos ⟨trivial, h6.symm⟩, h7] at h4
                    rw [List.reverse_append]
                    exact h4
                  · exact ((HB3.out.trans (hb4.mono HB3.out.size)).alloc (Nat.le_trans HB3.out.size hb4.size) _).grown hgr (by have := HB3.out.size; have := hb4.size; simp; omega) (fun k e => by cases e)
                case measure => simp [intOf]; omega
    · obtain rfl : i = l.length := by omega
      have hR2 : (st.length == 1) = R := by
        have := HRun.out
        rw [List.drop_length] at this
        simpa [runS] using this
      have HR2 := Lib.hid hR2
      clear hR2
      rcases hSt with ⟨rfl, rfl⟩ | ⟨g, cap, rfl, hs1, hs2, hs3⟩
      · go_wp2_with fail
        go_ret
        exact ⟨by rw [← HR2.out]; rfl, hb⟩
      · clear hs3
        by_cases h1 : st.length = 1
        · rw [h1] at hs1 ⊢
          go_wp2_with fail
          go_ret
          exact ⟨by rw [← HR2.out, h1]; rfl, hb⟩
        · have h2 : ((st.length : Int) == 1) = false := by simp; omega
          go_wp2_with fail
          go_ret
          exact ⟨by rw [← HR2.out]; simp [h1], hb⟩
end Go.Proofs.Ytbmjdkbakeckoaa
