/- Walks of the reference's tape: what is on it, a side, a change. -/
import Derived.Test.YtallocndghjoeaaRb
namespace Go.Proofs.Ytallocndghjoeaa
open Go.RowKit Go.Proofs.YtallocndghjoeaaW.PrintWords
set_option linter.unusedVariables false

def Bare (l : List Chg) : Prop := ∀ c ∈ l, c.wipe = true → c.more = ⟨#[]⟩

theorem done_any (base : Nat) (v : Value) (x y : ByteArray) (side : Int) (wipe : Bool) (more : ByteArray) (w : World) (hP : PairAt w base v x y) (h0 : 0 ≤ side) (h1 : side < 2) (hw : wipe = true → more = ⟨#[]⟩) (hs : x.size + y.size + more.size ≤ 1000000000000) :
    Calls Try.prog 36 #[v, .agg #[.int .i64 side, .bool wipe, .string more]] w fun e w' => ∃ v', e = .returned v' ∧ PairAt w' w.heap.size v' (withF x y side wipe more).1 (withF x y side wipe more).2 ∧ Below w.heap.size w w' := by
  rcases (by omega : side = 0 ∨ side = 1) with rfl | rfl <;> cases wipe
  · exact done_00 base v x y more w hP (by omega)
  · have := hw rfl; subst this
    exact done_01 base v x y _ w hP (by omega)
  · exact done_10 base v x y more w hP (by omega)
  · have := hw rfl; subst this
    exact done_11 base v x y _ w hP (by omega)

set_option maxHeartbeats 800000 in
theorem rnow_some (base b g n cap : Nat) (sv : Value) (s0 s1 : ByteArray) (l : List Chg) (w : World) (hn : n = l.length) (hn2 : n ≤ 1000000000000)
    (hcell0 : ∀ k (h : k < l.length), w.cell? ⟨g, k * 3, none⟩ = some (.int .i64 l[k].side) ∧ w.cell? ⟨g, k * 3 + 1, none⟩ = some (.bool l[k].wipe) ∧ w.cell? ⟨g, k * 3 + 2, none⟩ = some (.string l[k].more))
    (hside : ∀ c ∈ l, 0 ≤ c.side ∧ c.side < 2) (hbare : Bare l) (hsz : s0.size + s1.size + mores l ≤ 1000000000000) (hbase : base ≤ w.heap.size) (hP : PairAt w base sv s0 s1)
    (hbw : b < w.heap.size) (hgw : g < w.heap.size) (h0 : w.cell? ⟨b, 0, none⟩ = some sv) (h1 : w.cell? ⟨b, 1, none⟩ = some (.slice (some ⟨g, 0, none⟩) n cap)) :
    Calls Try.prog 35 #[.pointer (some ⟨b, 0, none⟩)] w
      fun e w' => ∃ v, e = .returned v ∧ PairAt w' base v (nowF (s0, s1) l).1 (nowF (s0, s1) l).2 ∧ Below w.heap.size w w' := by
  have hcell := Lib.hid hcell0
  have hnn := Lib.hid hn
  clear hcell0 hn
  go_enter Try.func35, Try.ntmps35
  go_wp2
  go_loopw [3, 4] (fun lv i wr => ∃ k : Nat, k ≤ n ∧ i = .int .i64 k ∧ Below w.heap.size w wr ∧ PairAt wr base lv (nowF (s0, s1) (l.take k)).1 (nowF (s0, s1) (l.take k)).2) (fun _ i _ => n - (intOf i).toNat)
  case atStart => exact ⟨0, by omega, rfl, Below.refl _ _, hP⟩
  case round =>
    obtain ⟨k, hk, rfl, hb, hPk⟩ := hrel
    have h1' := (hb.cell (p := ⟨b, 1, none⟩) hbw).trans h1
    by_cases hlt : k < n
    · have hkl : k < l.length := by rw [← hnn.out]; exact hlt
      obtain ⟨c0, c1, c2⟩ := hcell.out k hkl
      have hsd := hside l[k] (List.getElem_mem hkl)
      have hbr := hbare l[k] (List.getElem_mem hkl)
      have hs1 := nowF_size (l.take k) (s0, s1)
      have hs2 := mores_take l k hkl
      have HS := Lib.hid (nowF_snoc (s0, s1) l k hkl)
      have HBR := Lib.hid hbr
      clear hbr
      generalize l[k] = c at *
      obtain ⟨sd, wp, mr⟩ := c
      generalize nowF (s0, s1) (l.take k) = pq at *
      obtain ⟨p, q⟩ := pq
      have d0 := (hb.cell (p := ⟨g, k * 3, none⟩) hgw).trans c0
      have d1 := (hb.cell (p := ⟨g, k * 3 + 1, none⟩) hgw).trans c1
      have d2 := (hb.cell (p := ⟨g, k * 3 + 2, none⟩) hgw).trans c2
      clear c0 c1 c2
      go_wp2_with fail
      refine (done_any base _ p q sd wp mr _ hPk hsd.1 hsd.2 HBR.out (by omega)).mono ?_
      rintro e w1 ⟨v1, rfl, hP1, hb1⟩
      have hP1' := hP1.mono (Nat.le_trans hbase hb.size)
      have hb2 := hb.trans (hb1.mono hb.size)
      clear hP1 hb1
      go_wp2
      go_roundw
      case rel => exact ⟨k + 1, by omega, by go_num, hb2, by rw [HS.out]; exact hP1'⟩
      case measure => simp [intOf]; omega
    · go_wp2
      go_ret
      have e2 : l.take k = l := List.take_of_length_le (by have := hnn.out; omega)
      rw [e2] at hPk
      exact ⟨_, rfl, hPk, hb⟩

set_option maxHeartbeats 800000 in
theorem rnow_nil (base b : Nat) (sv : Value) (s0 s1 : ByteArray) (w : World) (hP : PairAt w base sv s0 s1)
    (h0 : w.cell? ⟨b, 0, none⟩ = some sv) (h1 : w.cell? ⟨b, 1, none⟩ = some (.slice none 0 0)) :
    Calls Try.prog 35 #[.pointer (some ⟨b, 0, none⟩)] w
      fun e w' => ∃ v, e = .returned v ∧ PairAt w' base v s0 s1 ∧ Below w.heap.size w w' := by
  go_enter Try.func35, Try.ntmps35
  go_wp2
  refine wp_loop_rounds 1 ?_
  rw [rounds_succ]
  go_wp2
  go_ret
  exact ⟨_, rfl, hP, Below.refl _ _⟩

theorem rnow_any (base b : Nat) (row : Option Nat) (st : TapeSt) (w : World) (hT : RefAt w base b row st) (hside : ∀ c ∈ st.loose, 0 ≤ c.side ∧ c.side < 2) (hbare : Bare st.loose) (hsize : st.s0.size + st.s1.size + mores st.loose ≤ 1000000000000) (hmany : st.loose.length ≤ 1000000000) (hbs : base ≤ w.heap.size) :
    Calls Try.prog 35 #[.pointer (some ⟨b, 0, none⟩)] w fun e w' => ∃ v, e = .returned v ∧ PairAt w' base v st.now.1 st.now.2 ∧ Below w.heap.size w w' := by
  obtain ⟨sv, lv, hr, hb, hB, hP, hO⟩ := hT
  have c1 : w.cell? ⟨b, 1, none⟩ = some lv := blk_cell hB 1
  rcases hO.2 with ⟨hv, hn⟩ | ⟨g, cap, cur, hv, hbg, hh, h1, h2, h3, h4⟩
  · have e : st.now = (st.s0, st.s1) := by
      unfold TapeSt.now
      rw [List.length_eq_zero_iff.1 hn]; rfl
    rw [e]
    exact rnow_nil base b sv st.s0 st.s1 w hP (blk_cell hB 0) (by rw [c1, hv])
  · subst hv
    exact rnow_some base b g st.loose.length cap sv st.s0 st.s1 st.loose w rfl (by omega)
      (fun k hk => by
        obtain ⟨a0, a1, a2⟩ := cellsOf_get st.loose k hk
        exact ⟨(own_cells hO _ _ a0).1, (own_cells hO _ _ a1).1, (own_cells hO _ _ a2).1⟩)
      hside hbare hsize hbs hP (blk_lt hB) (blk_lt hh) (blk_cell hB 0) c1

set_option maxHeartbeats 800000 in
theorem rside_down (b : Nat) (n : Int) (w : World) (h7 : w.cell? ⟨b, 7, none⟩ = some (.bool true)) :
    Calls Try.prog 25 #[.pointer (some ⟨b, 0, none⟩), .int .i64 n] w fun e w' => e = .returned (.tuple #[.string ⟨#[]⟩, .int .i64 16]) ∧ w = w' := by
  go_enter Try.func25, Try.ntmps25
  go_wp2
  go_ret2
  exact ⟨rfl, rfl⟩

set_option maxHeartbeats 800000 in
theorem rside_arg (b : Nat) (n : Int) (w : World) (h7 : w.cell? ⟨b, 7, none⟩ = some (.bool false)) (hn : n < 0 ∨ 2 ≤ n) :
    Calls Try.prog 25 #[.pointer (some ⟨b, 0, none⟩), .int .i64 n] w fun e w' => e = .returned (.tuple #[.string ⟨#[]⟩, .int .i64 1]) ∧ w = w' := by
  have h0 : (n != 0) = true := by rw [bne_iff_ne]; omega
  have h1 : (n != 1) = true := by rw [bne_iff_ne]; omega
  have h2 : (n == 0) = false := by rw [beq_eq_false_iff_ne]; omega
  have h3 : (n == 1) = false := by rw [beq_eq_false_iff_ne]; omega
  clear hn
  go_enter Try.func25, Try.ntmps25
  go_wp2
  go_ret2
  exact ⟨rfl, rfl⟩

set_option maxHeartbeats 800000 in
theorem rside_0 (base b : Nat) (row : Option Nat) (st : TapeSt) (w : World) (hT : RefAt w base b row st) (hok : st.Ok) (hbare : Bare st.loose) (hbs : base ≤ w.heap.size) (h7 : w.cell? ⟨b, 7, none⟩ = some (.bool false)) :
    Calls Try.prog 25 #[.pointer (some ⟨b, 0, none⟩), .int .i64 0] w fun e w' => e = .returned (.tuple #[.string st.now.1, .int .i64 0]) ∧ Below w.heap.size w w' := by
  go_enter Try.func25, Try.ntmps25
  go_wp2_with fail
  refine (rnow_any base b row st _ hT hok.side hbare hok.size hok.many hbs).mono ?_
  rintro e w1 ⟨v, rfl, ⟨g, c, cur, rfl, _, hB, h0, h1⟩, hb1⟩
  have c0 : w1.cell? ⟨g, 0, none⟩ = some (.string st.now.1) := (blk_cell hB 0).trans h0
  have c1 : w1.cell? ⟨g, 1, none⟩ = some (.string st.now.2) := (blk_cell hB 1).trans h1
  clear hB h0 h1
  go_wp2
  go_ret2
  exact ⟨rfl, hb1⟩

set_option maxHeartbeats 800000 in
theorem rside_1 (base b : Nat) (row : Option Nat) (st : TapeSt) (w : World) (hT : RefAt w base b row st) (hok : st.Ok) (hbare : Bare st.loose) (hbs : base ≤ w.heap.size) (h7 : w.cell? ⟨b, 7, none⟩ = some (.bool false)) :
    Calls Try.prog 25 #[.pointer (some ⟨b, 0, none⟩), .int .i64 1] w fun e w' => e = .returned (.tuple #[.string st.now.2, .int .i64 0]) ∧ Below w.heap.size w w' := by
  go_enter Try.func25, Try.ntmps25
  go_wp2_with fail
  refine (rnow_any base b row st _ hT hok.side hbare hok.size hok.many hbs).mono ?_
  rintro e w1 ⟨v, rfl, ⟨g, c, cur, rfl, _, hB, h0, h1⟩, hb1⟩
  have c0 : w1.cell? ⟨g, 0, none⟩ = some (.string st.now.1) := (blk_cell hB 0).trans h0
  have c1 : w1.cell? ⟨g, 1, none⟩ = some (.string st.now.2) := (blk_cell hB 1).trans h1
  clear hB h0 h1
  go_wp2
  go_ret2
  exact ⟨rfl, hb1⟩

theorem RefAt.c7 {w : World} {base b : Nat} {row : Option Nat} {st : TapeSt} (hT : RefAt w base b row st) : w.cell? ⟨b, 7, none⟩ = some (.bool st.down) := by
  obtain ⟨_, _, _, _, hB, _⟩ := hT; exact blk_cell hB 7

theorem rside_any (base b : Nat) (row : Option Nat) (st : TapeSt) (n : Int) (w : World) (hT : RefAt w base b row st) (hok : st.Ok) (hbare : Bare st.loose) (hbs : base ≤ w.heap.size) :
    Calls Try.prog 25 #[.pointer (some ⟨b, 0, none⟩), .int .i64 n] w fun e w' => e = .returned (.tuple #[.string (sideF st n).1, .int .i64 (sideF st n).2]) ∧ Below w.heap.size w w' := by
  have h7 := hT.c7
  unfold sideF
  by_cases hd : st.down = true
  · rw [if_pos hd]
    rw [hd] at h7
    exact (rside_down b n w h7).mono fun e w' ⟨he, hw⟩ => ⟨he, hw ▸ Below.refl _ _⟩
  · rw [if_neg hd]
    have hd' : st.down = false := by simpa using hd
    rw [hd'] at h7
    by_cases hn : n < 0 ∨ 2 ≤ n
    · rw [if_pos hn]
      exact (rside_arg b n w h7 hn).mono fun e w' ⟨he, hw⟩ => ⟨he, hw ▸ Below.refl _ _⟩
    · rw [if_neg hn]
      rcases (by omega : n = 0 ∨ n = 1) with rfl | rfl
      · exact rside_0 base b row st w hT hok hbare hbs h7
      · exact rside_1 base b row st w hT hok hbare hbs h7

theorem rnew_pair (w : World) (a : Obj) : PairAt ((w.alloc a).alloc (Obj.cells #[.string ⟨#[]⟩, .string ⟨#[]⟩] 9)) w.heap.size (.slice (some ⟨w.heap.size + 1, 0, none⟩) 2 2) ⟨#[]⟩ ⟨#[]⟩ :=
  ⟨w.heap.size + 1, 2, _, rfl, by omega, blk_new1 _ _ _, rfl, rfl⟩

set_option maxHeartbeats 400000 in
theorem rnew_any (room crash keep torn : Int) (w : World) :
    Calls Try.prog 20 #[.agg #[.int .i64 room, .int .i64 crash, .int .i64 keep, .int .i64 torn]] w
      fun e w' => ∃ g, e = .returned (.pointer (some ⟨g, 0, none⟩)) ∧ RefAt w' w.heap.size g none (newSt room crash keep torn) ∧ Below w.heap.size w w' := by
  go_enter Try.func20, Try.ntmps20
  go_wp2
  go_ret
  refine ⟨w.heap.size + 1 + 1, rfl, ⟨_, .slice none 0 0, rfl, by omega, blk_new2 _ _ _ _, (rnew_pair w _).below ((Below.refl _ _).alloc (Nat.le_refl _) _), own_nil _ _ _ _⟩, below3 _ _ _ _⟩

end Go.Proofs.Ytallocndghjoeaa
