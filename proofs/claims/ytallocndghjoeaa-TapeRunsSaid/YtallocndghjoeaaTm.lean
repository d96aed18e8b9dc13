/- The change of that number is not done, and nothing behind it: the law's plain side. -/
import Derived.Test.YtallocndghjoeaaTl
namespace Go.Proofs.Ytallocndghjoeaa
open Go.RowKit Go.Proofs.YtallocndghjoeaaW.PrintWords

structure Cr (st : TapeSt) (i k : Nat) : Prop where
  crash : st.crash = k
  room : st.room = 1000
  size : st.s0.size + st.s1.size + mores st.loose ≤ i
  many : st.loose.length ≤ i
  side : ∀ x ∈ st.loose, 0 ≤ x.side ∧ x.side < 2
  up : i ≤ k → st.down = false ∧ st.calls + 1 = i
  off : k < i → st.down = true ∧ st.calls = k

theorem Cr.ok {st : TapeSt} {i k : Nat} (h : Cr st i k) (hi : i ≤ 100) (h1 : 1 ≤ i) (hk : k ≤ 100) : st.Ok := by
  refine ⟨h.side, Nat.le_trans h.size (by omega), Nat.le_trans h.many (by omega), ?_, ?_⟩
  · rcases Nat.lt_or_ge k i with hl | hl
    · have := (h.off hl).2; omega
    · have := (h.up hl).2; omega
  · rcases Nat.lt_or_ge k i with hl | hl
    · have := (h.off hl).2; omega
    · have := (h.up hl).2; omega

theorem cr_new (k : Nat) (hk : 1 ≤ k) : Cr (newSt 1000 k 0 0) 1 k :=
  ⟨rfl, rfl, Nat.zero_le 1, Nat.zero_le 1, (by intro x hx; cases hx), fun _ => ⟨rfl, rfl⟩, fun h => absurd h (by omega)⟩

def crE (i k : Nat) : Int := if k ≤ i then 16 else 0

theorem cr_seal {st : TapeSt} {i k : Nat} (h : Cr st i k) : (sealF st).2 = crE i k ∧ Cr (sealF st).1 (i + 1) k := by
  unfold sealF crE
  rcases Nat.lt_or_ge k i with hl | hl
  · have h1 := h.off hl
    rw [if_pos h1.1, if_pos (by omega)]
    exact ⟨rfl, h.crash, h.room, Nat.le_succ_of_le h.size, Nat.le_succ_of_le h.many, h.side, fun hh => absurd hh (by omega), fun _ => h1⟩
  · have h1 := h.up hl
    rw [if_neg (by rw [h1.1]; decide)]
    by_cases hik : i = k
    · rw [if_pos (by rw [h.crash, h1.2, hik]), if_pos (by omega)]
      exact ⟨rfl, h.crash, h.room, Nat.le_succ_of_le h.size, Nat.le_succ_of_le h.many, h.side, fun hh => absurd hh (by omega), fun _ => ⟨rfl, by show st.calls + 1 = _; rw [h1.2, hik]⟩⟩
    · rw [if_neg (by rw [h.crash, h1.2]; omega), if_neg (by omega)]
      refine ⟨rfl, h.crash, h.room, ?_, Nat.zero_le _, (by intro x hx; cases hx), fun _ => ⟨rfl, ?_⟩, fun hh => absurd hh (by omega)⟩
      · have e1 := nowF_size st.loose (st.s0, st.s1)
        have e2 := h.size
        have e3 : mores ([] : List Chg) = 0 := rfl
        show (nowF (st.s0, st.s1) st.loose).1.size + (nowF (st.s0, st.s1) st.loose).2.size + mores [] ≤ i + 1
        simp only at e1
        omega
      · show st.calls + 1 + 1 = _
        have := h1.2
        omega

theorem cr_add {st : TapeSt} {i k : Nat} (h : Cr st i k) (n : Int) (h0 : 0 ≤ n) (h1 : n < 2) (hi : i ≤ 100) : (addF st n [⟨#[121]⟩]).2 = crE i k ∧ Cr (addF st n [⟨#[121]⟩]).1 (i + 1) k := by
  rcases Nat.lt_or_ge k i with hl | hl
  · have h2 := h.off hl
    have hg : gateF st.down n = 16 := by rw [h2.1]; rfl
    have e : addF st n [⟨#[121]⟩] = (st, 16) := by unfold addF; rw [if_neg (by rw [hg]; decide), hg]
    rw [e]
    unfold crE
    rw [if_pos (by omega)]
    exact ⟨rfl, h.crash, h.room, Nat.le_succ_of_le h.size, Nat.le_succ_of_le h.many, h.side, fun hh => absurd hh (by omega), fun _ => h2⟩
  · have h2 := h.up hl
    have hg : gateF st.down n = 0 := by rw [h2.1]; unfold gateF; rw [if_neg (by decide), if_neg (by omega)]
    have hsz : ¬ st.room < addTot st n (catF [⟨#[121]⟩]) := by
      have e1 := nowF_size st.loose (st.s0, st.s1)
      have e2 := h.size
      have e3 := withF_size st.now.1 st.now.2 n false (catF [⟨#[121]⟩])
      have e4 : (catF [⟨#[121]⟩]).size = 1 := rfl
      have e5 : st.now = nowF (st.s0, st.s1) st.loose := rfl
      rw [h.room]
      unfold addTot
      rw [e5] at e3 ⊢
      simp only at e1
      omega
    have e : addF st n [⟨#[121]⟩] = (putF st ⟨n, false, catF [⟨#[121]⟩]⟩, putC st) := by unfold addF; rw [if_pos hg, if_neg hsz]
    rw [e]
    have e4 : (catF [⟨#[121]⟩]).size = 1 := rfl
    generalize catF [⟨#[121]⟩] = m at *
    by_cases hik : i = k
    · have hcr : st.crash = st.calls + 1 := by rw [h.crash, h2.2, hik]
      refine ⟨by simp [putC, hcr, crE, hik], h.crash, h.room, ?_, ?_, ?_, fun hh => absurd hh (by omega), fun _ => ⟨by simp [putF, hcr], by show st.calls + 1 = _; rw [h2.2, hik]⟩⟩
      · have e2 := h.size
        have e3 : (putF st ⟨n, false, m⟩).loose = st.loose := by simp [putF, hcr]
        show st.s0.size + st.s1.size + mores (putF st ⟨n, false, m⟩).loose ≤ _
        rw [e3]; omega
      · have e3 : (putF st ⟨n, false, m⟩).loose = st.loose := by simp [putF, hcr]
        rw [e3]; exact Nat.le_succ_of_le h.many
      · have e3 : (putF st ⟨n, false, m⟩).loose = st.loose := by simp [putF, hcr]
        rw [e3]; exact h.side
    · have hcr : ¬ st.crash = st.calls + 1 := by rw [h.crash, h2.2]; omega
      have e3 : (putF st ⟨n, false, m⟩).loose = st.loose ++ [⟨n, false, m⟩] := by simp [putF, hcr]
      refine ⟨?_, h.crash, h.room, ?_, ?_, ?_, fun _ => ⟨by simp [putF, hcr], ?_⟩, fun hh => absurd hh (by omega)⟩
      · unfold putC crE
        rw [if_neg hcr, if_neg (by omega)]
      · have e2 := h.size
        have e6 := mores_app st.loose [⟨n, false, m⟩]
        have e7 : mores [(⟨n, false, m⟩ : Chg)] = m.size := by simp [mores]
        show st.s0.size + st.s1.size + mores (putF st ⟨n, false, m⟩).loose ≤ _
        rw [e3]; omega
      · rw [e3]; have := h.many; simp; omega
      · intro y hy
        rw [e3] at hy
        rcases List.mem_append.1 hy with hy | hy
        · exact h.side y hy
        · simp only [List.mem_singleton] at hy; subst hy; exact ⟨h0, h1⟩
      · show st.calls + 1 + 1 = _
        have := h2.2
        omega

theorem crE_16 (i k : Nat) : (crE i k == 16) = decide ((k : Int) ≤ i) := by
  unfold crE
  by_cases h : k ≤ i
  · rw [if_pos h]; simp; omega
  · rw [if_neg h]; simp; omega

end Go.Proofs.Ytallocndghjoeaa
