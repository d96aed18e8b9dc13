/- The tables of the plain runner: what is put in is found again, and nothing else is touched. -/
import Derived.Test.YtfcfliclmjikkaaGreatDoorExa
namespace Go.Proofs.YtfcfliclmjikkaaGreatDoor.Ex
open Go
set_option linter.unusedVariables false

section
variable {α : Type}
theorem N8.sel_upd_same (n : N8 α) (i : Nat) (f : α → α) : (n.upd i f).sel i = f (n.sel i) := by
  obtain ⟨a0, a1, a2, a3, a4, a5, a6, a7⟩ := n
  rcases i with _ | _ | _ | _ | _ | _ | _ | i <;> rfl
theorem N8.sel_upd_ne (n : N8 α) {i j : Nat} (f : α → α) (hi : i < 8) (hj : j < 8) (h : i ≠ j) : (n.upd i f).sel j = n.sel j := by
  obtain ⟨a0, a1, a2, a3, a4, a5, a6, a7⟩ := n
  rcases i with _ | _ | _ | _ | _ | _ | _ | _ | i <;> rcases j with _ | _ | _ | _ | _ | _ | _ | _ | j <;> first | rfl | exact absurd rfl h | omega
theorem N8.sel_upd (n : N8 α) {i j : Nat} (f : α → α) (hi : i < 8) (hj : j < 8) : (n.upd i f).sel j = if i = j then f (n.sel j) else n.sel j := by
  split
  · subst_vars; exact N8.sel_upd_same _ _ _
  · exact N8.sel_upd_ne _ _ hi hj (by assumption)
theorem N8.sel_all (x : α) (i : Nat) : (N8.all x).sel i = x := by
  rcases i with _ | _ | _ | _ | _ | _ | _ | i <;> rfl
theorem blt_true {a b : Nat} (h : a < b) : Nat.blt a b = true := by unfold Nat.blt; rw [Nat.ble_eq]; exact h
theorem blt_false {a b : Nat} (h : ¬ a < b) : Nat.blt a b = false := by
  cases q : Nat.blt a b with
  | false => rfl
  | true => unfold Nat.blt at q; rw [Nat.ble_eq] at q; exact absurd q h
theorem lvl_cases (i : Nat) : (lvl i = 0 ∧ i < 8) ∨ (lvl i = 1 ∧ 8 ≤ i ∧ i < 64) ∨ (lvl i = 2 ∧ 64 ≤ i ∧ i < 512) ∨ (lvl i = 3 ∧ 512 ≤ i ∧ i < 4096) ∨ (lvl i = 4 ∧ 4096 ≤ i ∧ i < 32768) ∨ (lvl i = 5 ∧ 32768 ≤ i) := by
  unfold lvl
  by_cases h0 : i < 8
  · rw [blt_true h0]; exact .inl ⟨rfl, h0⟩
  · rw [blt_false h0]
    by_cases h1 : i < 64
    · rw [blt_true h1]; exact .inr (.inl ⟨rfl, by omega, h1⟩)
    · rw [blt_false h1]
      by_cases h2 : i < 512
      · rw [blt_true h2]; exact .inr (.inr (.inl ⟨rfl, by omega, h2⟩))
      · rw [blt_false h2]
        by_cases h3 : i < 4096
        · rw [blt_true h3]; exact .inr (.inr (.inr (.inl ⟨rfl, by omega, h3⟩)))
        · rw [blt_false h3]
          by_cases h4 : i < 32768
          · rw [blt_true h4]; exact .inr (.inr (.inr (.inr (.inl ⟨rfl, by omega, h4⟩))))
          · rw [blt_false h4]; exact .inr (.inr (.inr (.inr (.inr ⟨rfl, by omega⟩))))
theorem Tr.get_upd_same (t : Tr α) (i : Nat) (x : Option α) : (t.upd i x).get i = x := by
  rcases lvl_cases i with ⟨e, h⟩ | ⟨e, h⟩ | ⟨e, h⟩ | ⟨e, h⟩ | ⟨e, h⟩ | ⟨e, h⟩ <;> simp only [Tr.get, Tr.upd, e, N8.sel_upd_same]
  show (match Nat.beq i i with | true => x | false => _) = x
  rw [Nat.beq_refl]
theorem Tr.get_upd_ne (t : Tr α) {i j : Nat} (x : Option α) (h : i ≠ j) : (t.upd i x).get j = t.get j := by
  rcases lvl_cases i with ⟨e, h1⟩ | ⟨e, h1⟩ | ⟨e, h1⟩ | ⟨e, h1⟩ | ⟨e, h1⟩ | ⟨e, h1⟩ <;> rcases lvl_cases j with ⟨e', h2⟩ | ⟨e', h2⟩ | ⟨e', h2⟩ | ⟨e', h2⟩ | ⟨e', h2⟩ | ⟨e', h2⟩ <;> simp only [Tr.get, Tr.upd, e, e']
  · exact N8.sel_upd_ne _ _ h1 h2 h
  · rw [N8.sel_upd _ _ (by omega) (by omega)]
    split
    · rw [N8.sel_upd_ne _ _ (by omega) (by omega) (by omega)]
    · rfl
  · rw [N8.sel_upd _ _ (by omega) (by omega)]
    split
    · rw [N8.sel_upd _ _ (by omega) (by omega)]
      split
      · rw [N8.sel_upd_ne _ _ (by omega) (by omega) (by omega)]
      · rfl
    · rfl
  · rw [N8.sel_upd _ _ (by omega) (by omega)]
    split
    · rw [N8.sel_upd _ _ (by omega) (by omega)]
      split
      · rw [N8.sel_upd _ _ (by omega) (by omega)]
        split
        · rw [N8.sel_upd_ne _ _ (by omega) (by omega) (by omega)]
        · rfl
      · rfl
    · rfl
  · rw [N8.sel_upd _ _ (by omega) (by omega)]
    split
    · rw [N8.sel_upd _ _ (by omega) (by omega)]
      split
      · rw [N8.sel_upd _ _ (by omega) (by omega)]
        split
        · rw [N8.sel_upd _ _ (by omega) (by omega)]
          split
          · rw [N8.sel_upd_ne _ _ (by omega) (by omega) (by omega)]
          · rfl
        · rfl
      · rfl
    · rfl
  · show (match Nat.beq i j with | true => x | false => findL j t.rest) = _
    cases q : Nat.beq i j with
    | true => exact absurd (Nat.eq_of_beq_eq_true q) h
    | false => rfl

theorem Tr.get_set_same (t : Tr α) (i : Nat) (x : α) : (t.set i x).get i = some x := Tr.get_upd_same _ _ _
theorem Tr.get_set_ne (t : Tr α) {i j : Nat} (x : α) (h : i ≠ j) : (t.set i x).get j = t.get j := Tr.get_upd_ne _ _ h
theorem Tr.get_set (t : Tr α) (i j : Nat) (x : α) : (t.set i x).get j = if i = j then some x else t.get j := by
  split
  · subst_vars; exact Tr.get_set_same _ _ _
  · exact Tr.get_set_ne _ _ (by assumption)
theorem Tr.get_del_same (t : Tr α) (i : Nat) : (t.del i).get i = none := Tr.get_upd_same _ _ _
theorem Tr.get_del_ne (t : Tr α) {i j : Nat} (h : i ≠ j) : (t.del i).get j = t.get j := Tr.get_upd_ne _ _ h
theorem Tr.get_del_some (t : Tr α) {i j : Nat} {x : α} (h : (t.del i).get j = some x) : i ≠ j ∧ t.get j = some x := by
  by_cases e : i = j
  · subst e; rw [Tr.get_del_same] at h; cases h
  · exact ⟨e, by rwa [Tr.get_del_ne t e] at h⟩
theorem Tr.get_nil (i : Nat) : (Tr.nil : Tr α).get i = none := by
  rcases lvl_cases i with ⟨e, h⟩ | ⟨e, h⟩ | ⟨e, h⟩ | ⟨e, h⟩ | ⟨e, h⟩ | ⟨e, h⟩ <;> simp only [Tr.get, Tr.nil, e, N8.sel_all, findL]
theorem Tr.get_put : ∀ (l : List α) (t : Tr α) (i j : Nat), (t.put i l).get j = if i ≤ j ∧ j < i + l.length then l[j - i]? else t.get j
  | [], t, i, j => by
    simp only [Tr.put, List.length_nil]
    rw [if_neg (by omega)]
  | x :: l, t, i, j => by
    simp only [Tr.put, List.length_cons]
    rw [Tr.get_put l (t.set i x) (i + 1) j]
    by_cases h : i + 1 ≤ j ∧ j < i + 1 + l.length
    · rw [if_pos h, if_pos (by omega), show j - i = (j - (i + 1)) + 1 by omega]
      rfl
    · rw [if_neg h]
      by_cases e : i = j
      · subst e
        rw [Tr.get_set_same, if_pos (by omega)]
        simp
      · rw [Tr.get_set_ne _ _ e, if_neg (by omega)]
theorem Tr.take_spec (t : Tr α) : ∀ (n i : Nat) (l : List α), t.take i n = some l → l.length = n ∧ ∀ j, j < n → t.get (i + j) = l[j]?
  | 0, i, l, h => by
    simp only [Tr.take, Option.some.injEq] at h
    subst h
    exact ⟨rfl, fun j hj => by omega⟩
  | n + 1, i, l, h => by
    simp only [Tr.take] at h
    cases hx : t.get i with
    | none => simp [hx] at h
    | some x =>
      cases hr : t.take (i + 1) n with
      | none => simp [hx, hr] at h
      | some r =>
        simp only [hx, hr, Option.some.injEq] at h
        subst h
        obtain ⟨h1, h2⟩ := Tr.take_spec t n (i + 1) r hr
        refine ⟨by simp [h1], fun j hj => ?_⟩
        cases j with
        | zero => simpa using hx
        | succ j =>
          have := h2 j (by omega)
          rw [show i + (j + 1) = i + 1 + j by omega, this]
          rfl
end
end Go.Proofs.YtfcfliclmjikkaaGreatDoor.Ex
