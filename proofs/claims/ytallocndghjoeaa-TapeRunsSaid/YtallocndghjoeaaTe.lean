/- Walks of package tape: the methods. -/
import Derived.Test.YtallocndghjoeaaTd
namespace Go.Proofs.Ytallocndghjoeaa
open Go.RowKit Go.Proofs.YtallocndghjoeaaW.PrintWords

def putC (st : TapeSt) : Int := if st.crash = st.calls + 1 then 16 else 0

theorem put_any (base b : Nat) (row : Option Nat) (st : TapeSt) (c : Chg) (w : World) (hc0 : 0 ≤ st.calls) (hc1 : st.calls ≤ 1000000000000) (hT : TapeAt w base b row st)
    (hn : st.loose.length ≤ 1000000000) (hbs : base ≤ w.heap.size) :
    Calls Try.prog 30 #[.pointer (some ⟨b, 0, none⟩), .agg #[.int .i64 c.side, .bool c.wipe, .string c.more]] w
      fun e w' => e = .returned (.int .i64 (putC st)) ∧ ∃ row', TapeAt w' base b row' (putF st c) ∧ RowOk w row row' ∧ Fr w w' b row := by
  by_cases h : st.crash = st.calls + 1
  · rw [show putC st = 16 from if_pos h]
    exact (put_crash base b row st c w hc0 hc1 hT h).mono fun e w' ⟨h1, h2, h3⟩ => ⟨h1, row, h2, fun k hk => .inl hk, h3⟩
  · rw [show putC st = 0 from if_neg h]
    exact put_ok base b row st c w hc0 hc1 hT h hn hbs

def newSt (room crash keep torn : Int) : TapeSt := ⟨⟨#[]⟩, ⟨#[]⟩, [], room, crash, keep, torn, 0, false⟩

set_option maxHeartbeats 400000 in
theorem new_any (room crash keep torn : Int) (w : World) :
    Calls Try.prog 8 #[.agg #[.int .i64 room, .int .i64 crash, .int .i64 keep, .int .i64 torn]] w
      fun e w' => ∃ g, e = .returned (.pointer (some ⟨g, 0, none⟩)) ∧ TapeAt w' w.heap.size g none (newSt room crash keep torn) ∧ Below w.heap.size w w' := by
  go_enter Try.func8, Try.ntmps8
  go_wp2
  go_ret
  exact ⟨w.heap.size + 1, rfl, ⟨.slice none 0 0, rfl, by omega, blk_new1 _ _ _, own_nil _ _ _ _⟩, below2 _ _ _⟩

set_option maxHeartbeats 400000 in
theorem down_nil (w : World) : Calls Try.prog 16 #[.pointer none] w fun e w' => e = .returned (.bool false) ∧ w = w' := by
  go_enter Try.func16, Try.ntmps16
  go_wp2
  go_ret
  exact ⟨rfl, rfl⟩

theorem TapeAt.cell {w : World} {base b : Nat} {row : Option Nat} {st : TapeSt} (hT : TapeAt w base b row st) : ∃ lv, w.cell? ⟨b, 0, none⟩ = some (.string st.s0) ∧ w.cell? ⟨b, 1, none⟩ = some (.string st.s1) ∧ w.cell? ⟨b, 2, none⟩ = some lv ∧
    w.cell? ⟨b, 3, none⟩ = some (.int .i64 st.room) ∧ w.cell? ⟨b, 4, none⟩ = some (.int .i64 st.crash) ∧ w.cell? ⟨b, 5, none⟩ = some (.int .i64 st.keep) ∧ w.cell? ⟨b, 6, none⟩ = some (.int .i64 st.torn) ∧
    w.cell? ⟨b, 7, none⟩ = some (.int .i64 st.calls) ∧ w.cell? ⟨b, 8, none⟩ = some (.bool st.down) ∧ b < w.heap.size ∧ base ≤ b := by
  obtain ⟨lv, _, hb, hB, _⟩ := hT
  exact ⟨lv, blk_cell hB 0, blk_cell hB 1, blk_cell hB 2, blk_cell hB 3, blk_cell hB 4, blk_cell hB 5, blk_cell hB 6, blk_cell hB 7, blk_cell hB 8, blk_lt hB, hb⟩

set_option maxHeartbeats 400000 in
theorem down_any (base b : Nat) (row : Option Nat) (st : TapeSt) (w : World) (hT : TapeAt w base b row st) :
    Calls Try.prog 16 #[.pointer (some ⟨b, 0, none⟩)] w fun e w' => e = .returned (.bool st.down) ∧ w = w' := by
  obtain ⟨lv, c0, c1, c2, c3, c4, c5, c6, c7, c8, hb, hbase⟩ := hT.cell
  clear c0 c1 c2 c3 c4 c5 c6 c7
  go_enter Try.func16, Try.ntmps16
  go_wp2
  go_ret
  exact ⟨rfl, rfl⟩

set_option maxHeartbeats 400000 in
theorem calls_nil (w : World) : Calls Try.prog 17 #[.pointer none] w fun e w' => e = .returned (.int .i64 0) ∧ w = w' := by
  go_enter Try.func17, Try.ntmps17
  go_wp2
  go_ret
  exact ⟨rfl, rfl⟩

set_option maxHeartbeats 400000 in
theorem calls_any (base b : Nat) (row : Option Nat) (st : TapeSt) (w : World) (hT : TapeAt w base b row st) :
    Calls Try.prog 17 #[.pointer (some ⟨b, 0, none⟩)] w fun e w' => e = .returned (.int .i64 st.calls) ∧ w = w' := by
  obtain ⟨lv, c0, c1, c2, c3, c4, c5, c6, c7, c8, hb, hbase⟩ := hT.cell
  go_enter Try.func17, Try.ntmps17
  go_wp2
  go_ret
  exact ⟨rfl, rfl⟩

set_option maxHeartbeats 400000 in
theorem loose_nil (w : World) : Calls Try.prog 18 #[.pointer none] w fun e w' => e = .returned (.int .i64 0) ∧ w = w' := by
  go_enter Try.func18, Try.ntmps18
  go_wp2
  go_ret
  exact ⟨rfl, rfl⟩

set_option maxHeartbeats 400000 in
theorem loose_any (base b : Nat) (row : Option Nat) (st : TapeSt) (w : World) (hT : TapeAt w base b row st) :
    Calls Try.prog 18 #[.pointer (some ⟨b, 0, none⟩)] w fun e w' => e = .returned (.int .i64 st.loose.length) ∧ w = w' := by
  obtain ⟨lv, hr, hb, hB, hO⟩ := hT
  have hbl := blk_lt hB
  have c2 : w.cell? ⟨b, 2, none⟩ = some lv := blk_cell hB 2
  obtain ⟨A, c, hv⟩ := own_slice hO
  rw [hv] at c2
  clear hB hr hO hv
  go_enter Try.func18, Try.ntmps18
  go_wp2
  go_ret
  exact ⟨rfl, rfl⟩

end Go.Proofs.Ytallocndghjoeaa
