/- Two tapes side by side; what is known behind so many acts. -/
import Derived.Test.YtallocndghjoeaaRg
namespace Go.Proofs.Ytallocndghjoeaa
open Go.RowKit Go.Proofs.YtallocndghjoeaaW.PrintWords
set_option linter.unusedVariables false

theorem StrsAt.below {w w' : World} {B : Nat} {v : Value} {l : List ByteArray} (h : StrsAt w v l) (hb : Below w.heap.size w w') : StrsAt w' v l := by
  rcases h with h | ⟨lb, lo, c, hv, h1, h2⟩
  · exact .inl h
  · exact .inr ⟨lb, lo, c, hv, Nat.lt_of_lt_of_le h1 hb.size, fun k hk => (hb.cell (p := ⟨lb, lo + k, none⟩) h1).trans (h2 k hk)⟩

theorem AcAt.below {w w' : World} {ab off : Nat} {x : Ac} (h : AcAt w ab off x) (hl : ab < w.heap.size) (hb : Below w.heap.size w w') : AcAt w' ab off x :=
  ⟨(hb.cell (p := ⟨ab, _, none⟩) hl).trans h.act, (hb.cell (p := ⟨ab, _, none⟩) hl).trans h.side, (hb.cell (p := ⟨ab, _, none⟩) hl).trans h.lv, (hb.cell (p := ⟨ab, _, none⟩) hl).trans h.room,
    (hb.cell (p := ⟨ab, _, none⟩) hl).trans h.crash, (hb.cell (p := ⟨ab, _, none⟩) hl).trans h.keep, (hb.cell (p := ⟨ab, _, none⟩) hl).trans h.torn, StrsAt.below (B := 0) h.strs hb, h.reach, h.slice⟩

theorem ne_of_types {w : World} {g g' : Nat} {cs cs' : Array Value} {t t' : TypeId} (h : w.heap[g]? = some (.cells cs t (0, 0))) (h' : w.heap[g']? = some (.cells cs' t' (0, 0))) (hne : t ≠ t') : g ≠ g' := blk_ne h h' hne

theorem Fr.ownT {w w1 : World} {b : Nat} {row : Option Nat} (hF : Fr w w1 b row) {base : Nat} {e : TypeId} {n : Nat} {v : Value} {xs : List Value} (ho : w.ownsRow base e 3 v n xs) {cs : Array Value} {t : TypeId} (hb : w.heap[b]? = some (.cells cs t (0, 0))) (ht : e ≠ t)
    (hr : ∀ k, row = some k → ∃ cs' t', w.heap[k]? = some (.cells cs' t' (0, 0)) ∧ t' ≠ e) : w1.ownsRow base e 3 v n xs := by
  refine own_move ho (fun k hk => hF.block k (own_lt ho k hk) (fun e1 => ?_) (fun e1 => ?_))
  · obtain ⟨c2, h2⟩ := own_typed ho k hk
    subst e1
    rw [hb] at h2; injection h2 with h2; injection h2 with _ h2; exact ht h2.symm
  · obtain ⟨c2, h2⟩ := own_typed ho k hk
    obtain ⟨c3, t3, h3, h4⟩ := hr k e1.symm
    rw [h2] at h3; injection h3 with h3; injection h3 with _ h3; exact h4 h3.symm

theorem TapeAt.types {w : World} {base b : Nat} {row : Option Nat} {st : TapeSt} (hT : TapeAt w base b row st) : (∃ cs, w.heap[b]? = some (.cells cs 59 (0, 0))) ∧ ∀ k, row = some k → ∃ cs', w.heap[k]? = some (.cells cs' 61 (0, 0)) := by
  obtain ⟨lv, hr, _, hB, hO⟩ := hT
  exact ⟨⟨_, hB⟩, fun k hk => own_typed hO k (hr.trans hk)⟩
theorem RefAt.types {w : World} {base b : Nat} {row : Option Nat} {st : TapeSt} (hT : RefAt w base b row st) : (∃ cs, w.heap[b]? = some (.cells cs 52 (0, 0))) ∧ ∀ k, row = some k → ∃ cs', w.heap[k]? = some (.cells cs' 68 (0, 0)) := by
  obtain ⟨sv, lv, hr, _, hB, _, hO⟩ := hT
  exact ⟨⟨_, hB⟩, fun k hk => own_typed hO k (hr.trans hk)⟩

theorem RefAt.fr {w w' : World} {base b rb base2 : Nat} {row rrow : Option Nat} {st st2 : TapeSt} (hR : RefAt w base rb rrow st) (hT : TapeAt w base2 b row st2) (hF : Fr w w' b row) : RefAt w' base rb rrow st := by
  obtain ⟨⟨cs, h59⟩, h61⟩ := hT.types
  obtain ⟨sv, lv, hr, hb, hB, hP, hO⟩ := hR
  refine ⟨sv, lv, hr, hb, hF.keep hB (blk_ne hB h59 (by decide)) (fun e => ?_), hP.fr hF h59 (by decide) (fun k hk => ?_), hF.ownT hO h59 (by decide) (fun k hk => ?_)⟩
  · obtain ⟨cs', h⟩ := h61 rb e.symm
    exact blk_ne hB h (by decide) rfl
  · obtain ⟨cs', h⟩ := h61 k hk; exact ⟨cs', 61, h, by decide⟩
  · obtain ⟨cs', h⟩ := h61 k hk; exact ⟨cs', 61, h, by decide⟩

theorem TapeAt.fr {w w' : World} {base b rb base2 : Nat} {row rrow : Option Nat} {st st2 : TapeSt} (hT : TapeAt w base b row st) (hR : RefAt w base2 rb rrow st2) (hF : Fr w w' rb rrow) : TapeAt w' base b row st := by
  obtain ⟨⟨cs, h52⟩, h68⟩ := hR.types
  obtain ⟨lv, hr, hb, hB, hO⟩ := hT
  refine ⟨lv, hr, hb, hF.keep hB (blk_ne hB h52 (by decide)) (fun e => ?_), hF.ownT hO h52 (by decide) (fun k hk => ?_)⟩
  · obtain ⟨cs', h⟩ := h68 b e.symm
    exact blk_ne hB h (by decide) rfl
  · obtain ⟨cs', h⟩ := h68 k hk; exact ⟨cs', 68, h, by decide⟩

theorem Fr.belowR {w w1 : World} {b base : Nat} {row : Option Nat} {st : TapeSt} (h : Fr w w1 b row) (hT : RefAt w base b row st) (hB : base ≤ w.heap.size) : Below base w w1 := by
  obtain ⟨sv, lv, hr, hb, _, _, hO⟩ := hT
  exact h.below hB hb (fun k hk => own_base hO k (by rw [hr]; exact hk))

structure Gd (st : TapeSt) (i : Nat) : Prop where
  side : ∀ c ∈ st.loose, 0 ≤ c.side ∧ c.side < 2
  size : st.s0.size + st.s1.size + mores st.loose ≤ 300 * i
  many : st.loose.length ≤ i
  calls0 : 0 ≤ st.calls
  calls1 : st.calls ≤ i
  bare : Bare st.loose

theorem Gd.ok {st : TapeSt} {i : Nat} (h : Gd st i) (hi : i ≤ 100) : st.Ok :=
  ⟨h.side, Nat.le_trans h.size (by omega), Nat.le_trans h.many (by omega), h.calls0, by have := h.calls1; omega⟩
theorem gd_new (room crash keep torn : Int) : Gd (newSt room crash keep torn) 0 :=
  ⟨(by intro x hx; cases hx), Nat.le_refl 0, Nat.le_refl 0, Int.le_refl 0, Int.le_refl 0, (by intro x hx; cases hx)⟩
theorem Gd.next {st : TapeSt} {i : Nat} (h : Gd st i) : Gd st (i + 1) :=
  ⟨h.side, Nat.le_trans h.size (by omega), Nat.le_succ_of_le h.many, h.calls0, by have := h.calls1; omega, h.bare⟩

theorem gd_put {st : TapeSt} {i : Nat} (h : Gd st i) (c : Chg) (h0 : 0 ≤ c.side) (h1 : c.side < 2) (hm : c.more.size ≤ 300) (hw : c.wipe = true → c.more = ⟨#[]⟩) : Gd (putF st c) (i + 1) := by
  by_cases hcr : st.crash = st.calls + 1
  · have e : (putF st c).loose = st.loose := by simp [putF, hcr]
    refine ⟨by rw [e]; exact h.side, ?_, by rw [e]; exact Nat.le_succ_of_le h.many, ?_, ?_, by rw [e]; exact h.bare⟩
    · show st.s0.size + st.s1.size + mores (putF st c).loose ≤ _
      rw [e]; have := h.size; omega
    · have := h.calls0; show 0 ≤ st.calls + 1; omega
    · have := h.calls1; show st.calls + 1 ≤ ((i + 1 : Nat) : Int); omega
  · have e : (putF st c).loose = st.loose ++ [c] := by simp [putF, hcr]
    refine ⟨?_, ?_, ?_, ?_, ?_, ?_⟩
    · intro y hy
      rw [e] at hy
      rcases List.mem_append.1 hy with hy | hy
      · exact h.side y hy
      · simp only [List.mem_singleton] at hy; subst hy; exact ⟨h0, h1⟩
    · have e2 := mores_app st.loose [c]
      have e3 : mores [c] = c.more.size := by simp [mores]
      have e4 := h.size
      show st.s0.size + st.s1.size + mores (putF st c).loose ≤ _
      rw [e]; omega
    · rw [e]; have := h.many; simp; omega
    · have := h.calls0; show 0 ≤ st.calls + 1; omega
    · have := h.calls1; show st.calls + 1 ≤ ((i + 1 : Nat) : Int); omega
    · intro y hy
      rw [e] at hy
      rcases List.mem_append.1 hy with hy | hy
      · exact h.bare y hy
      · simp only [List.mem_singleton] at hy; subst hy; exact hw

theorem gate_in {st : TapeSt} {n : Int} (h : gateF st.down n = 0) : 0 ≤ n ∧ n < 2 := by
  unfold gateF at h
  split at h
  · omega
  · split at h <;> omega

theorem gd_add {st : TapeSt} {i : Nat} (h : Gd st i) (n : Int) (l : List ByteArray) (hl : sizes l ≤ 300) : Gd (addF st n l).1 (i + 1) := by
  unfold addF
  by_cases hg : gateF st.down n = 0
  · rw [if_pos hg]
    have := gate_in hg
    by_cases hr : st.room < addTot st n (catF l)
    · rw [if_pos hr]; exact h.next
    · rw [if_neg hr]
      exact gd_put h ⟨n, false, catF l⟩ this.1 this.2 (by rw [catF_size]; exact hl) (fun e => by cases e)
  · rw [if_neg hg]; exact h.next

theorem gd_wipe {st : TapeSt} {i : Nat} (h : Gd st i) (n : Int) : Gd (wipeF st n).1 (i + 1) := by
  unfold wipeF
  by_cases hg : gateF st.down n = 0
  · rw [if_pos hg]
    have := gate_in hg
    exact gd_put h ⟨n, true, ⟨#[]⟩⟩ this.1 this.2 (Nat.zero_le _) (fun _ => rfl)
  · rw [if_neg hg]; exact h.next

theorem gd_seal {st : TapeSt} {i : Nat} (h : Gd st i) : Gd (sealF st).1 (i + 1) := by
  have e0 := h.calls0
  have e1 := h.calls1
  unfold sealF
  split
  · exact h.next
  · split
    · exact ⟨h.side, Nat.le_trans h.size (by omega), Nat.le_succ_of_le h.many, by show 0 ≤ st.calls + 1; omega, by show st.calls + 1 ≤ ((i + 1 : Nat) : Int); omega, h.bare⟩
    · refine ⟨(by intro x hx; cases hx), ?_, Nat.zero_le _, by show 0 ≤ st.calls + 1; omega, by show st.calls + 1 ≤ ((i + 1 : Nat) : Int); omega, (by intro x hx; cases hx)⟩
      have e2 := nowF_size st.loose (st.s0, st.s1)
      have e3 := h.size
      show (nowF (st.s0, st.s1) st.loose).1.size + (nowF (st.s0, st.s1) st.loose).2.size + mores [] ≤ _
      rw [show mores [] = 0 from rfl]
      simp only at e2
      omega

theorem gd_fall {st : TapeSt} {i : Nat} (h : Gd st i) (room crash keep torn : Int) : Gd (fallF st room crash keep torn) (i + 1) := by
  refine ⟨(by intro x hx; cases hx), ?_, Nat.zero_le _, Int.le_refl 0, by show (0 : Int) ≤ ((i + 1 : Nat) : Int); omega, (by intro x hx; cases hx)⟩
  have h1 := nowF_size (tornL st.loose (partF keep st.loose.length).toNat torn) (st.s0, st.s1)
  have h2 := h.size
  have h3 : mores (tornL st.loose (partF keep st.loose.length).toNat torn) ≤ mores st.loose := tornL_mores _ _ _
  show (nowF (st.s0, st.s1) (tornL st.loose (partF keep st.loose.length).toNat torn)).1.size + (nowF (st.s0, st.s1) (tornL st.loose (partF keep st.loose.length).toNat torn)).2.size + mores [] ≤ _
  rw [show mores [] = 0 from rfl]
  simp only at h1
  omega

theorem sizes_le_drop (l : List ByteArray) (k : Nat) : sizes (l.take k) ≤ sizes l := by
  induction l generalizing k with
  | nil => simp [sizes]
  | cons x l ih =>
    cases k with
    | zero => simp [sizes]
    | succ k =>
      have e : ∀ m : List ByteArray, sizes (x :: m) = x.size + sizes m := fun _ => rfl
      rw [List.take_succ_cons, e, e]; have := ih k; omega
theorem sizes_snoc (l : List ByteArray) (k : Nat) (h : k < l.length) : sizes (l.take (k + 1)) = sizes (l.take k) + l[k].size := by
  have h1 := cat_go (l.take (k + 1)) ⟨#[]⟩
  have h2 := cat_go (l.take k) ⟨#[]⟩
  have h3 : (l.take (k + 1)).foldl (· ++ ·) (⟨#[]⟩ : ByteArray) = (l.take k).foldl (· ++ ·) ⟨#[]⟩ ++ l[k] := by
    rw [List.take_succ_eq_append_getElem h, List.foldl_append]; rfl
  rw [h3, ByteArray.size_append] at h1
  omega
end Go.Proofs.Ytallocndghjoeaa
