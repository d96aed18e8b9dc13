/- Walks of package tape: what is on it, a side, a wipe, a seal. -/
import Derived.Test.YtallocndghjoeaaTe
namespace Go.Proofs.Ytallocndghjoeaa
open Go.RowKit Go.Proofs.YtallocndghjoeaaW.PrintWords

theorem cellsOf_get (l : List Chg) : ∀ (k : Nat) (h : k < l.length), (cellsOf l)[k * 3]? = some (.int .i64 l[k].side) ∧ (cellsOf l)[k * 3 + 1]? = some (.bool l[k].wipe) ∧ (cellsOf l)[k * 3 + 2]? = some (.string l[k].more) := by
  induction l with
  | nil => intro k h; simp at h
  | cons c l ih =>
    intro k h
    have e : cellsOf (c :: l) = [.int .i64 c.side, .bool c.wipe, .string c.more] ++ cellsOf l := rfl
    cases k with
    | zero => simp [e]
    | succ k =>
      have := ih k (by simpa using h)
      rw [show (k + 1) * 3 = k * 3 + 3 by omega, show k * 3 + 3 + 1 = (k * 3 + 1) + 3 by omega, show k * 3 + 3 + 2 = (k * 3 + 2) + 3 by omega, e]
      simpa using this

theorem own_cells {w : World} {base g n cap size : Nat} {e : TypeId} {xs : List Value} (h : w.ownsRow base e size (.slice (some ⟨g, 0, none⟩) n cap) n xs) (j : Nat) (u : Value) (hj : xs[j]? = some u) : w.cell? ⟨g, j, none⟩ = some u ∧ g < w.heap.size := by
  rcases h.2 with ⟨hv, _⟩ | ⟨g', cap', cur, hv, _, hh, _, _, _, hx⟩
  · cases hv
  · injection hv with hv hn hc
    injection hv with hv
    injection hv with hv
    subst hv
    refine ⟨?_, blk_lt hh⟩
    rw [blk_cell hh j, ← hj, ← hx, List.getElem?_take]
    have hl : j < xs.length := (List.getElem?_eq_some_iff.1 hj).1
    rw [if_pos (by rw [← hx] at hl; simp at hl; omega)]
    simp

structure TapeSt.Ok (st : TapeSt) : Prop where
  side : ∀ c ∈ st.loose, 0 ≤ c.side ∧ c.side < 2
  size : st.s0.size + st.s1.size + mores st.loose ≤ 1000000000000
  many : st.loose.length ≤ 1000000000
  calls0 : 0 ≤ st.calls
  calls1 : st.calls ≤ 1000000000000

def TapeSt.now (st : TapeSt) : ByteArray × ByteArray := nowF (st.s0, st.s1) st.loose

set_option maxHeartbeats 400000 in
theorem now_nil (b : Nat) (s0 s1 : ByteArray) (w : World) (hbw : b < w.heap.size) (h0 : w.cell? ⟨b, 0, none⟩ = some (.string s0)) (h1 : w.cell? ⟨b, 1, none⟩ = some (.string s1)) (h2 : w.cell? ⟨b, 2, none⟩ = some (.slice none 0 0)) :
    Calls Try.prog 27 #[.pointer (some ⟨b, 0, none⟩)] w fun e w' => e = .returned (.agg #[.string s0, .string s1]) ∧ Below w.heap.size w w' := by
  go_enter Try.func27, Try.ntmps27
  go_wp2
  refine wp_loop_rounds 1 ?_
  rw [rounds_succ]
  go_wp2
  exact bodyPost_ret (v := .agg #[.string s0, .string s1]) (by simp [results, Try.results27, go_sem]) rfl ⟨rfl, below2 _ _ _⟩

theorem now_any (base b : Nat) (row : Option Nat) (st : TapeSt) (w : World) (hT : TapeAt w base b row st) (hside : ∀ c ∈ st.loose, 0 ≤ c.side ∧ c.side < 2) (hsize : st.s0.size + st.s1.size + mores st.loose ≤ 1000000000000) (hmany : st.loose.length ≤ 1000000000) :
    Calls Try.prog 27 #[.pointer (some ⟨b, 0, none⟩)] w fun e w' => e = .returned (.agg #[.string st.now.1, .string st.now.2]) ∧ Below w.heap.size w w' := by
  obtain ⟨lv, hr, hb, hB, hO⟩ := hT
  have c2 : w.cell? ⟨b, 2, none⟩ = some lv := blk_cell hB 2
  rcases hO.2 with ⟨hv, hn⟩ | ⟨g, cap, cur, hv, hbg, hh, h1, h2, h3, h4⟩
  · have e : st.now = (st.s0, st.s1) := by
      unfold TapeSt.now
      rw [List.length_eq_zero_iff.1 hn]; rfl
    rw [e]
    exact now_nil b st.s0 st.s1 w (blk_lt hB) (blk_cell hB 0) (blk_cell hB 1) (by rw [c2, hv])
  · subst hv
    exact now_some b g st.loose.length cap st.s0 st.s1 st.loose w rfl (by omega)
      (fun k hk => by
        obtain ⟨a0, a1, a2⟩ := cellsOf_get st.loose k hk
        exact ⟨(own_cells hO _ _ a0).1, (own_cells hO _ _ a1).1, (own_cells hO _ _ a2).1⟩)
      hside hsize (blk_lt hB) (blk_lt hh) (blk_cell hB 0) (blk_cell hB 1) c2

set_option maxHeartbeats 400000 in
theorem side_nil (n : Int) (w : World) : Calls Try.prog 11 #[.pointer none, .int .i64 n] w fun e w' => e = .returned (.tuple #[.string ⟨#[]⟩, .int .i64 2]) ∧ w = w' := by
  go_enter Try.func11, Try.ntmps11
  go_wp2_with fail
  refine (gate_nil n _).mono ?_
  rintro e w' ⟨rfl, rfl⟩
  go_wp2
  go_ret2
  exact ⟨rfl, rfl⟩

def sideF (st : TapeSt) (n : Int) : ByteArray × Int :=
  if st.down then (⟨#[]⟩, 16) else if n < 0 ∨ 2 ≤ n then (⟨#[]⟩, 1) else (if n = 0 then st.now.1 else st.now.2, 0)

set_option maxHeartbeats 400000 in
theorem side_bad (base b : Nat) (row : Option Nat) (st : TapeSt) (n : Int) (w : World) (hT : TapeAt w base b row st) (hg : gateF st.down n ≠ 0) :
    Calls Try.prog 11 #[.pointer (some ⟨b, 0, none⟩), .int .i64 n] w fun e w' => e = .returned (.tuple #[.string ⟨#[]⟩, .int .i64 (gateF st.down n)]) ∧ w = w' := by
  have hc8 : w.cell? ⟨b, 8, none⟩ = some (.bool st.down) := by obtain ⟨lv, _, _, hB, _⟩ := hT; exact blk_cell hB 8
  have HC8 := Lib.hid hc8
  clear hc8 hT
  obtain ⟨gg, hgg⟩ : ∃ gg, gateF st.down n = gg := ⟨_, rfl⟩
  have hne : (gg != 0) = true := by rw [← hgg]; simpa using hg
  have HG := Lib.hid hgg
  clear hgg hg
  go_enter Try.func11, Try.ntmps11
  go_wp2_with fail
  refine (gate_any b n st.down _ HC8.out).mono ?_
  rintro e w' ⟨rfl, rfl⟩
  rw [HG.out]
  go_wp2
  go_ret2
  exact ⟨by rw [HG.out]; rfl, rfl⟩

set_option maxHeartbeats 400000 in
theorem side_ok0 (base b : Nat) (row : Option Nat) (st : TapeSt) (w : World) (hT : TapeAt w base b row st) (hok : st.Ok) (hd : st.down = false) :
    Calls Try.prog 11 #[.pointer (some ⟨b, 0, none⟩), .int .i64 0] w fun e w' => e = .returned (.tuple #[.string st.now.1, .int .i64 0]) ∧ Below w.heap.size w w' := by
  have hc8 : w.cell? ⟨b, 8, none⟩ = some (.bool st.down) := by obtain ⟨lv, _, _, hB, _⟩ := hT; exact blk_cell hB 8
  have HC8 := Lib.hid hc8
  have HD := Lib.hid hd
  clear hc8 hd
  have i0 : ∀ (x y : Value) w, (Instr.index 56 (.agg #[x, y]) (.int .i64 0)).run Try.prog w = .ok x w := fun _ _ _ => by kernel_rfl
  go_enter Try.func11, Try.ntmps11
  go_wp2_with fail
  refine (gate_any b 0 st.down _ HC8.out).mono ?_
  rintro e w' ⟨rfl, rfl⟩
  rw [HD.out, show gateF false 0 = 0 from rfl]
  go_wp2_with fail
  refine (now_any base b row st _ hT hok.side hok.size hok.many).mono ?_
  rintro e w' ⟨rfl, hb⟩
  go_wp2
  go_ret2
  exact ⟨rfl, hb⟩

set_option maxHeartbeats 400000 in
theorem side_ok1 (base b : Nat) (row : Option Nat) (st : TapeSt) (w : World) (hT : TapeAt w base b row st) (hok : st.Ok) (hd : st.down = false) :
    Calls Try.prog 11 #[.pointer (some ⟨b, 0, none⟩), .int .i64 1] w fun e w' => e = .returned (.tuple #[.string st.now.2, .int .i64 0]) ∧ Below w.heap.size w w' := by
  have hc8 : w.cell? ⟨b, 8, none⟩ = some (.bool st.down) := by obtain ⟨lv, _, _, hB, _⟩ := hT; exact blk_cell hB 8
  have HC8 := Lib.hid hc8
  have HD := Lib.hid hd
  clear hc8 hd
  have i0 : ∀ (x y : Value) w, (Instr.index 56 (.agg #[x, y]) (.int .i64 1)).run Try.prog w = .ok y w := fun _ _ _ => by kernel_rfl
  go_enter Try.func11, Try.ntmps11
  go_wp2_with fail
  refine (gate_any b 1 st.down _ HC8.out).mono ?_
  rintro e w' ⟨rfl, rfl⟩
  rw [HD.out, show gateF false 1 = 0 from rfl]
  go_wp2_with fail
  refine (now_any base b row st _ hT hok.side hok.size hok.many).mono ?_
  rintro e w' ⟨rfl, hb⟩
  go_wp2
  go_ret2
  exact ⟨rfl, hb⟩

theorem side_any (base b : Nat) (row : Option Nat) (st : TapeSt) (n : Int) (w : World) (hT : TapeAt w base b row st) (hok : st.Ok) :
    Calls Try.prog 11 #[.pointer (some ⟨b, 0, none⟩), .int .i64 n] w fun e w' => e = .returned (.tuple #[.string (sideF st n).1, .int .i64 (sideF st n).2]) ∧ Below w.heap.size w w' := by
  unfold sideF
  by_cases hd : st.down = true
  · rw [if_pos hd]
    refine (side_bad base b row st n w hT (by simp [gateF, hd])).mono ?_
    rintro e w' ⟨rfl, rfl⟩
    exact ⟨by simp [gateF, hd], Below.refl _ _⟩
  · rw [if_neg hd]
    have hd' : st.down = false := by simpa using hd
    by_cases hn : n < 0 ∨ 2 ≤ n
    · rw [if_pos hn]
      have hg : gateF st.down n = 1 := by simp [gateF, hd', hn]
      refine (side_bad base b row st n w hT (by rw [hg]; decide)).mono ?_
      rintro e w' ⟨rfl, rfl⟩
      exact ⟨by rw [hg], Below.refl _ _⟩
    · rw [if_neg hn]
      rcases (by omega : n = 0 ∨ n = 1) with rfl | rfl
      · exact side_ok0 base b row st w hT hok hd'
      · exact side_ok1 base b row st w hT hok hd'

end Go.Proofs.Ytallocndghjoeaa
