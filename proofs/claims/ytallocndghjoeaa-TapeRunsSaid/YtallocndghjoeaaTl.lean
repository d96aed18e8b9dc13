/- What a tape's calls do, said of what is on its sides. -/
import Derived.Test.YtallocndghjoeaaTk
namespace Go.Proofs.Ytallocndghjoeaa
open Go.RowKit Go.Proofs.YtallocndghjoeaaW.PrintWords

def xs (n : Nat) : ByteArray := ⟨(List.replicate n (120 : UInt8)).toArray⟩
theorem xs_size (n : Nat) : (xs n).size = n := by simp [xs, ByteArray.size]
theorem xs_succ (n : Nat) : xs n ++ ⟨#[120]⟩ = xs (n + 1) := by
  apply ByteArray.ext
  rw [ByteArray.data_append]
  apply Array.ext'
  simp [xs, List.replicate_succ']

set_option maxHeartbeats 400000 in
theorem text_any (n : Nat) (hn : n ≤ 1000000) (w : World) : Calls Try.prog 10 #[.int .i64 n] w fun e w' => e = .returned (.string (xs n)) ∧ w = w' := by
  go_enter Try.func10, Try.ntmps10
  go_wp2
  go_loop [3, 4] (fun s i => ∃ k : Nat, k ≤ n ∧ i = .int .i64 k ∧ s = .string (xs k)) (fun _ i => n - (intOf i).toNat)
  case atStart => exact ⟨0, by omega, rfl, rfl⟩
  case round =>
    obtain ⟨k, hk, rfl, rfl⟩ := hrel
    have hs := xs_size k
    have HS := Lib.hid (xs_succ k)
    have hs' : (xs k).size ≤ 1000000 := by omega
    clear hs
    generalize hx : xs k = x at *
    have HX := Lib.hid hx
    clear hx
    by_cases hlt : k < n
    · go_wp2
      go_round
      case rel => exact ⟨k + 1, by omega, by go_num, by rw [HS.out]⟩
      case measure => simp [intOf]; omega
    · go_wp2
      go_ret
      have : k = n := by omega
      exact ⟨by rw [← HX.out, this]; rfl, rfl⟩

/-- What is known of a tape that does not fall. -/
structure Good (st : TapeSt) (r : Int) (now : ByteArray × ByteArray) (B c : Nat) : Prop where
  down : st.down = false
  crash : st.crash ≤ 0
  room : st.room = r
  now : st.now = now
  size : st.s0.size + st.s1.size + mores st.loose ≤ B
  many : st.loose.length ≤ c
  calls0 : 0 ≤ st.calls
  calls1 : st.calls ≤ c
  side : ∀ x ∈ st.loose, 0 ≤ x.side ∧ x.side < 2

theorem Good.ok {st : TapeSt} {r : Int} {now : ByteArray × ByteArray} {B c : Nat} (h : Good st r now B c) (hB : B ≤ 1000000000000) (hc : c ≤ 1000000000) : st.Ok :=
  ⟨h.side, Nat.le_trans h.size hB, Nat.le_trans h.many hc, h.calls0, by have := h.calls1; omega⟩

theorem good_new (room crash keep torn : Int) (h : crash ≤ 0) : Good (newSt room crash keep torn) room (⟨#[]⟩, ⟨#[]⟩) 0 0 :=
  ⟨rfl, h, rfl, rfl, Nat.le_refl 0, Nat.le_refl 0, Int.le_refl 0, Int.le_refl 0, (by intro x hx; cases hx)⟩

theorem nowF_app (s : ByteArray × ByteArray) (l : List Chg) (c : Chg) : nowF s (l ++ [c]) = stepF (nowF s l) c := by
  unfold nowF
  rw [List.foldl_append]; rfl

theorem good_put {st : TapeSt} {r : Int} {now : ByteArray × ByteArray} {B c : Nat} (h : Good st r now B c) (x : Chg) (h0 : 0 ≤ x.side) (h1 : x.side < 2) :
    putC st = 0 ∧ Good (putF st x) r (stepF now x) (B + x.more.size) (c + 1) := by
  have hcr : ¬ st.crash = st.calls + 1 := by have := h.crash; have := h.calls0; omega
  refine ⟨if_neg hcr, ?_⟩
  have e : (putF st x).loose = st.loose ++ [x] := by simp [putF, hcr]
  refine ⟨by simp [putF, hcr], h.crash, h.room, ?_, ?_, ?_, ?_, ?_, ?_⟩
  · show nowF (st.s0, st.s1) (putF st x).loose = _
    rw [e, nowF_app, ← h.now]; rfl
  · have e2 := mores_app st.loose [x]
    have e3 : mores [x] = x.more.size := by simp [mores]
    have e4 := h.size
    show st.s0.size + st.s1.size + mores (putF st x).loose ≤ _
    rw [e]; omega
  · rw [e]; have := h.many; simp; omega
  · have := h.calls0; show 0 ≤ st.calls + 1; omega
  · have := h.calls1; show st.calls + 1 ≤ ((c + 1 : Nat) : Int); omega
  · intro y hy
    rw [e] at hy
    rcases List.mem_append.1 hy with hy | hy
    · exact h.side y hy
    · simp only [List.mem_singleton] at hy; subst hy; exact ⟨h0, h1⟩

theorem good_add_full {st : TapeSt} {r : Int} {now : ByteArray × ByteArray} {B c : Nat} (h : Good st r now B c) (n : Int) (h0 : 0 ≤ n) (h1 : n < 2) (l : List ByteArray)
    (hr : r < ((withF now.1 now.2 n false (catF l)).1.size : Int) + (withF now.1 now.2 n false (catF l)).2.size) : addF st n l = (st, 15) := by
  have hg : gateF st.down n = 0 := by rw [h.down]; unfold gateF; rw [if_neg (by decide), if_neg (by omega)]
  unfold addF
  rw [if_pos hg, if_pos]
  unfold addTot
  rw [h.room, h.now]; exact hr

theorem good_add {st : TapeSt} {r : Int} {now : ByteArray × ByteArray} {B c : Nat} (h : Good st r now B c) (n : Int) (h0 : 0 ≤ n) (h1 : n < 2) (l : List ByteArray)
    (hr : ((withF now.1 now.2 n false (catF l)).1.size : Int) + (withF now.1 now.2 n false (catF l)).2.size ≤ r) :
    (addF st n l).2 = 0 ∧ Good (addF st n l).1 r (withF now.1 now.2 n false (catF l)) (B + sizes l) (c + 1) := by
  have hg : gateF st.down n = 0 := by rw [h.down]; unfold gateF; rw [if_neg (by decide), if_neg (by omega)]
  have e : addF st n l = (putF st ⟨n, false, catF l⟩, putC st) := by
    unfold addF
    rw [if_pos hg, if_neg]
    unfold addTot
    rw [h.room, h.now]; omega
  rw [e]
  have := good_put h ⟨n, false, catF l⟩ h0 h1
  rw [catF_size] at this
  exact this

theorem good_wipe {st : TapeSt} {r : Int} {now : ByteArray × ByteArray} {B c : Nat} (h : Good st r now B c) (n : Int) (h0 : 0 ≤ n) (h1 : n < 2) :
    (wipeF st n).2 = 0 ∧ Good (wipeF st n).1 r (withF now.1 now.2 n true ⟨#[]⟩) B (c + 1) := by
  have hg : gateF st.down n = 0 := by rw [h.down]; unfold gateF; rw [if_neg (by decide), if_neg (by omega)]
  have e : wipeF st n = (putF st ⟨n, true, ⟨#[]⟩⟩, putC st) := by unfold wipeF; rw [if_pos hg]
  rw [e]
  exact good_put h ⟨n, true, ⟨#[]⟩⟩ h0 h1

theorem good_side {st : TapeSt} {r : Int} {now : ByteArray × ByteArray} {B c : Nat} (h : Good st r now B c) (n : Int) (h0 : 0 ≤ n) (h1 : n < 2) : sideF st n = (if n = 0 then now.1 else now.2, 0) := by
  unfold sideF
  rw [if_neg (by rw [h.down]; decide), if_neg (by omega), h.now]

theorem cat_one (s : ByteArray) : catF [s] = s := by unfold catF; simp only [List.foldl_cons, List.foldl_nil, empty_app]

end Go.Proofs.Ytallocndghjoeaa
