/- Walks of package tape: a change is put. -/
import Derived.Test.YtallocndghjoeaaTc
import Derived.Deep.RegionLaw
import Derived.Deep.AppendLies
namespace Go.Proofs.Ytallocndghjoeaa
open Go.RowKit Go.Proofs.YtallocndghjoeaaW.PrintWords

structure TapeSt where
  s0 : ByteArray
  s1 : ByteArray
  loose : List Chg
  room : Int
  crash : Int
  keep : Int
  torn : Int
  calls : Int
  down : Bool

def TapeSt.cells (st : TapeSt) (lv : Value) : Array Value := tapeCells st.s0 st.s1 lv st.room st.crash st.keep st.torn st.calls st.down

def TapeAt (w : World) (base b : Nat) (row : Option Nat) (st : TapeSt) : Prop :=
  ∃ lv, lv.ownBlock = row ∧ base ≤ b ∧ w.heap[b]? = some (.cells (st.cells lv) 59 (0, 0)) ∧ w.ownsRow base 61 3 lv st.loose.length (cellsOf st.loose)

/-- The row behind a call is the old one, or none, or new. -/
def RowOk (w : World) (row row' : Option Nat) : Prop := ∀ k, row' = some k → row = some k ∨ w.heap.size ≤ k

theorem cellsOf_snoc (l : List Chg) (c : Chg) : cellsOf (l ++ [c]) = cellsOf l ++ [.int .i64 c.side, .bool c.wipe, .string c.more] := by simp [cellsOf]

def putF (st : TapeSt) (c : Chg) : TapeSt :=
  { st with calls := st.calls + 1, down := decide (st.crash = st.calls + 1), loose := if st.crash = st.calls + 1 then st.loose else st.loose ++ [c] }

set_option maxHeartbeats 400000 in
theorem put_crash (base b : Nat) (row : Option Nat) (st : TapeSt) (c : Chg) (w : World) (hc0 : 0 ≤ st.calls) (hc1 : st.calls ≤ 1000000000000) (hT : TapeAt w base b row st) (hcr : st.crash = st.calls + 1) :
    Calls Try.prog 30 #[.pointer (some ⟨b, 0, none⟩), .agg #[.int .i64 c.side, .bool c.wipe, .string c.more]] w
      fun e w' => e = .returned (.int .i64 16) ∧ TapeAt w' base b row (putF st c) ∧ Fr w w' b row := by
  obtain ⟨lv, hrow, hbase, hB, hO⟩ := hT
  obtain ⟨sd, wp, mr⟩ := c
  have HB := Lib.hid hB
  have HR := Lib.hid hrow
  have HC := Lib.hid hcr
  have hb := blk_lt hB
  clear hB hrow hcr
  go_enter Try.func30, Try.ntmps30
  go_wp2_with fail
  refine (counted_any b st.s0 st.s1 lv st.room st.crash st.keep st.torn st.calls st.down _ hc0 hc1 (blk_alloc HB.out _)).mono ?_
  rintro e w1 ⟨rfl, hB1, hF1⟩
  rw [if_pos HC.out]
  have HB1 := Lib.hid hB1
  clear hB1
  go_wp2
  go_ret
  have hF : Fr w w1 b none := ((Fr.refl _ _ _).alloc _).trans' hF1
  refine ⟨rfl, ⟨lv, HR.out, hbase, ?_, ?_⟩, hF.mono⟩
  · exact HB1.out
  · have := hF.own hO (fun e => own_ne hO HB.out (by decide) e.symm) (by
      cases h : lv.ownBlock with
      | none => exact .inl rfl
      | some k => exact .inr (by simp))
    simpa [putF, HC.out] using this


theorem one3 (x y z : Value) (hx : x.oneCell' = true) (hy : y.oneCell' = true) (hz : z.oneCell' = true) : ∀ u ∈ [x, y, z], u.oneCell' = true := by
  intro u hu
  simp only [List.mem_cons, List.not_mem_nil, or_false] at hu
  rcases hu with rfl | rfl | rfl <;> assumption

theorem news3 (w : World) (x y z : Value) (t : TypeId) : ∀ j u, [x, y, z][j]? = some u → (w.alloc (.cells #[x, y, z] t)).drew.cell? ((⟨w.heap.size, 0, none⟩ : Addr).add j) = some u := by
  intro j u hu
  exact World.news_of_block (cs := #[x, y, z]) (t := t) (fr := (0, 0)) (heap_alloc_new w (.cells #[x, y, z] t)) j u (by simpa using hu)

set_option maxHeartbeats 400000 in
theorem put_ok (base b : Nat) (row : Option Nat) (st : TapeSt) (c : Chg) (w : World) (hc0 : 0 ≤ st.calls) (hc1 : st.calls ≤ 1000000000000) (hT : TapeAt w base b row st) (hcr : st.crash ≠ st.calls + 1)
    (hn : st.loose.length ≤ 1000000000) (hbs : base ≤ w.heap.size) :
    Calls Try.prog 30 #[.pointer (some ⟨b, 0, none⟩), .agg #[.int .i64 c.side, .bool c.wipe, .string c.more]] w
      fun e w' => e = .returned (.int .i64 0) ∧ ∃ row', TapeAt w' base b row' (putF st c) ∧ RowOk w row row' ∧ Fr w w' b row := by
  obtain ⟨lv, hrow, hbase, hB, hO⟩ := hT
  obtain ⟨sd, wp, mr⟩ := c
  obtain ⟨i0, hi, hz0, hz1, hz2⟩ := info_parts info61
  have HB := Lib.hid hB
  have HR := Lib.hid hrow
  have HC := Lib.hid hcr
  have hb := blk_lt hB
  have Hi := Lib.hid hi
  have Hz0 := Lib.hid hz0
  have Hz1 := Lib.hid hz1
  have Hz2 := Lib.hid hz2
  clear hB hrow hcr hi hz0 hz1 hz2
  go_enter Try.func30, Try.ntmps30
  go_wp2_with fail
  refine (counted_any b st.s0 st.s1 lv st.room st.crash st.keep st.torn st.calls st.down _ hc0 hc1 (blk_alloc HB.out _)).mono ?_
  rintro e w1 ⟨rfl, hB1, hF1⟩
  rw [if_neg HC.out]
  have hF : Fr w w1 b none := ((Fr.refl _ _ _).alloc _).trans' hF1
  have hnb : lv.ownBlock ≠ some b := fun e => own_ne hO HB.out (by decide) e.symm
  have hO1 := hF.own hO hnb (by
      cases h : lv.ownBlock with
      | none => exact .inl rfl
      | some k => exact .inr (by simp))
  have k2 : w1.cell? ⟨b, 2, none⟩ = some lv := blk_cell hB1 2
  have g2 := blk_frozen hB1 2
  have jB := hF1.keep (blk_new w (Obj.cells #[.int .i64 sd, .bool wp, .string mr] 61)) (by omega) (by simp)
  have j0 := blk_cell jB 0
  have j1 := blk_cell jB 1
  have j2 := blk_cell jB 2
  have OWN := Lib.hid ((hO1.alloc (.cells #[.int .i64 sd, .bool wp, .string mr] 61)).drew)
  have NEWS := Lib.hid (news3 w1 (.int .i64 sd) (.bool wp) (.string mr) 61)
  have hb1 := blk_lt hB1
  have HB1 := Lib.hid hB1
  have HF := Lib.hid hF
  have HNB := Lib.hid hnb
  have hsz := hF.size
  clear hB1 hF hO1 hF1 hO hnb jB
  go_wp2
  go_region_law (refine step_append_lies _ rfl (.tmp 15) (.tmp 17) 57 rfl base 61 i0 (.agg #[.int .i64 0, .bool false, .string ⟨#[]⟩]) 3 32 Try.underlying57 Hi.out Hz0.out Hz1.out Hz2.out rfl (by decide) lv st.loose.length (cellsOf st.loose) rfl OWN.out ⟨w1.heap.size, 0, none⟩ 1 1 [.int .i64 sd, .bool wp, .string mr] rfl rfl NEWS.out (one3 _ _ _ rfl rfl rfl) (by omega) (by unfold maxLen; omega) (by omega) (by simp; omega) (w1.heap.size + 1) (by simp) ?_; intro g cap w2 hown2 hgr2 hat hlt; have hB2 := blk_grown (blk_drew (blk_alloc HB1.out _)) hgr2 (fun e => HNB.out e.symm); have q2 : w2.cell? ⟨b, 2, none⟩ = some lv := blk_cell hB2 2; have r2 := blk_frozen hB2 2; have HB2 := Lib.hid hB2; clear hB2)
  all_goals
    go_wp2
    go_ret
    have hFF : Fr w w2 b row := by
      refine (HF.out.mono.alloc _).drew.trans (Fr.of_grown hgr2 b) (fun j hj => .inl (HR.out.symm.trans hj))
    have hgb : g ≠ b := by
      rcases hat with hat | hat
      · intro e; exact HNB.out (by rw [hat, e])
      · omega
    refine ⟨rfl, some g, ⟨_, rfl, hbase, blk_set HB2.out 2 _, ?_⟩, ?_, hFF.set _ _⟩
    · have := own_setCell hown2 (p := ⟨b, 2, none⟩) (by simp only [Value.ownBlock, ne_eq, Option.some.injEq]; omega) (.slice (some ⟨g, 0, none⟩) (st.loose.length + 1) cap)
      simpa [putF, HC.out, cellsOf_snoc] using this
    · intro k hk
      rcases hat with hat | hat
      · left; rw [← HR.out, hat]; exact hk
      · right
        have : g = k := by simpa using hk
        omega
end Go.Proofs.Ytallocndghjoeaa
