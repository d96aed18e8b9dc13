/- Walks of the reference's tape: a change, an addition, a wipe, all made safe. -/
import Derived.Test.YtallocndghjoeaaRc
namespace Go.Proofs.Ytallocndghjoeaa
open Go.RowKit Go.Proofs.YtallocndghjoeaaW.PrintWords
set_option linter.unusedVariables false

theorem info68 : (Try.prog.info? 68).map (fun i => (i.zero, i.size, i.bytes)) = some (some (.agg #[.int .i64 0, .bool false, .string ⟨#[]⟩]), 3, 32) := by kernel_rfl

set_option maxRecDepth 100000 in
set_option maxHeartbeats 800000 in
theorem rchange_down (b : Nat) (c : Chg) (w : World) (hb : b < w.heap.size) (h7 : w.cell? ⟨b, 7, none⟩ = some (.bool true)) :
    Calls Try.prog 33 #[.pointer (some ⟨b, 0, none⟩), .agg #[.int .i64 c.side, .bool c.wipe, .string c.more]] w fun e w' => e = .returned (.int .i64 16) ∧ Below w.heap.size w w' := by
  obtain ⟨sd, wp, mr⟩ := c
  go_enter Try.func33, Try.ntmps33
  go_wp2
  go_ret
  exact ⟨rfl, (Below.refl _ _).alloc (Nat.le_refl _) _⟩

set_option maxRecDepth 100000 in
set_option maxHeartbeats 800000 in
theorem rchange_arg (b : Nat) (c : Chg) (w : World) (hb : b < w.heap.size) (h7 : w.cell? ⟨b, 7, none⟩ = some (.bool false)) (hn : c.side < 0 ∨ 2 ≤ c.side) :
    Calls Try.prog 33 #[.pointer (some ⟨b, 0, none⟩), .agg #[.int .i64 c.side, .bool c.wipe, .string c.more]] w fun e w' => e = .returned (.int .i64 1) ∧ Below w.heap.size w w' := by
  obtain ⟨sd, wp, mr⟩ := c
  have h0 : (sd != 0) = true := by rw [bne_iff_ne]; simp only at hn; omega
  have h1 : (sd != 1) = true := by rw [bne_iff_ne]; simp only at hn; omega
  have h2 : (sd == 0) = false := by rw [beq_eq_false_iff_ne]; simp only at hn; omega
  have h3 : (sd == 1) = false := by rw [beq_eq_false_iff_ne]; simp only at hn; omega
  clear hn
  go_enter Try.func33, Try.ntmps33
  go_wp2
  go_ret
  exact ⟨rfl, (Below.refl _ _).alloc (Nat.le_refl _) _⟩

def full (st : TapeSt) (c : Chg) : Prop := c.wipe = false ∧ st.room < (st.now.1.size : Int) + st.now.2.size + c.more.size

/-! REST -/
def RcPost (base b : Nat) (row : Option Nat) (st : TapeSt) (c : Chg) (w : World) (e : Ending) (w' : World) : Prop :=
  e = .returned (.int .i64 (putC st)) ∧ ∃ row', RefAt w' base b row' (putF st c) ∧ RowOk w row row' ∧ Fr w w' b row

set_option maxRecDepth 100000 in
set_option maxHeartbeats 1600000 in
theorem rchange_full0 (base b : Nat) (row : Option Nat) (st : TapeSt) (mr : ByteArray) (w : World) (hT : RefAt w base b row st) (hok : st.Ok) (hbare : Bare st.loose) (hbs : base ≤ w.heap.size) (hd : st.down = false)
    (hcs : mr.size ≤ 1000000000000) (hf : st.room < (st.now.1.size : Int) + st.now.2.size + mr.size) :
    Calls Try.prog 33 #[.pointer (some ⟨b, 0, none⟩), .agg #[.int .i64 0, .bool false, .string mr]] w fun e w' =>
      e = .returned (.int .i64 15) ∧ RefAt w' base b row st ∧ Below w.heap.size w w' := by
  have h7 := hT.c7
  rw [hd] at h7
  have hbl : b < w.heap.size := by obtain ⟨_, _, _, _, hB, _⟩ := hT; exact blk_lt hB
  have hnb := nowF_size st.loose (st.s0, st.s1)
  have hns : st.now.1.size + st.now.2.size ≤ 1000000000000 := Nat.le_trans hnb hok.size
  clear hnb
  have HT := Lib.hid hT
  clear hT hd
  go_enter Try.func33, Try.ntmps33
  go_wp2_with fail
  have hA := (Below.refl w.heap.size w).alloc (Nat.le_refl _) (Obj.cells #[Value.int IntKind.i64 0, Value.bool false, Value.string mr] 68)
  refine (rnow_any base b row st _ (HT.out.below hA) hok.side hbare hok.size hok.many (Nat.le_trans hbs hA.size)).mono ?_
  rintro e w1 ⟨v1, rfl, ⟨g, c, cur, rfl, _, hB, g0, g1⟩, hb1⟩
  have hO1 := blk_below (blk_new w (Obj.cells #[Value.int IntKind.i64 0, Value.bool false, Value.string mr] 68)) hb1
  have hw1 := hA.trans (hb1.mono hA.size)
  have hT1 := HT.out.below hw1
  have c0 : w1.cell? ⟨g, 0, none⟩ = some (.string st.now.1) := (blk_cell hB 0).trans g0
  have c1 : w1.cell? ⟨g, 1, none⟩ = some (.string st.now.2) := (blk_cell hB 1).trans g1
  have o0 : w1.cell? ⟨w.heap.size, 0, none⟩ = some (.int .i64 0) := blk_cell hO1 0
  have o1 : w1.cell? ⟨w.heap.size, 1, none⟩ = some (.bool false) := blk_cell hO1 1
  have o2 : w1.cell? ⟨w.heap.size, 2, none⟩ = some (.string mr) := blk_cell hO1 2
  have r2 : w1.cell? ⟨b, 2, none⟩ = some (.int .i64 st.room) := by obtain ⟨_, _, _, _, h, _⟩ := hT1; exact blk_cell h 2
  have hgl := blk_lt hB
  have hbl1 : b < w1.heap.size := Nat.lt_of_lt_of_le hbl hw1.size
  have hol1 := blk_lt hO1
  have HO1 := Lib.hid hO1
  generalize st.now.1 = p at *
  generalize st.now.2 = q at *
  clear hB g0 g1 hA hb1 h7 hO1
  go_wp2_with fail
  refine region_lay (by kernel_rfl) (by kernel_rfl) ?_
  repeat (go_big_quiet_step (fail))
  refine wpQuiet_nil ?_
  rintro _ ⟨zq, rfl⟩
  have hb2 := w1.lay_below zq
  have hT2 := hT1.below hb2
  have hO2 := blk_below HO1.out hb2
  have hw2 := hw1.trans (hb2.mono hw1.size)
  generalize w1.lay zq = w2 at *
  have HO2 := Lib.hid hO2
  clear c0 c1 o0 o1 o2 r2 hO2 hT1 hw1 HO1
  go_wp2
  go_ret
  exact ⟨rfl, hT2, hw2⟩

set_option maxRecDepth 100000 in
set_option maxHeartbeats 1600000 in
theorem rchange_add0c (base b : Nat) (row : Option Nat) (st : TapeSt) (mr : ByteArray) (w : World) (hT : RefAt w base b row st) (hok : st.Ok) (hbare : Bare st.loose) (hbs : base ≤ w.heap.size) (hd : st.down = false)
    (hcs : mr.size ≤ 1000000000000) (hf : ¬ st.room < (st.now.1.size : Int) + st.now.2.size + mr.size) (hcr : st.crash = st.calls + 1) :
    Calls Try.prog 33 #[.pointer (some ⟨b, 0, none⟩), .agg #[.int .i64 0, .bool false, .string mr]] w fun e w' =>
      RcPost base b row st ⟨0, false, mr⟩ w e w' := by
  have h7 := hT.c7
  rw [hd] at h7
  have hbl : b < w.heap.size := by obtain ⟨_, _, _, _, hB, _⟩ := hT; exact blk_lt hB
  have hnb := nowF_size st.loose (st.s0, st.s1)
  have hns : st.now.1.size + st.now.2.size ≤ 1000000000000 := Nat.le_trans hnb hok.size
  clear hnb
  have HT := Lib.hid hT
  clear hT hd
  go_enter Try.func33, Try.ntmps33
  go_wp2_with fail
  have hA := (Below.refl w.heap.size w).alloc (Nat.le_refl _) (Obj.cells #[Value.int IntKind.i64 0, Value.bool false, Value.string mr] 68)
  refine (rnow_any base b row st _ (HT.out.below hA) hok.side hbare hok.size hok.many (Nat.le_trans hbs hA.size)).mono ?_
  rintro e w1 ⟨v1, rfl, ⟨g, c, cur, rfl, _, hB, g0, g1⟩, hb1⟩
  have hO1 := blk_below (blk_new w (Obj.cells #[Value.int IntKind.i64 0, Value.bool false, Value.string mr] 68)) hb1
  have hw1 := hA.trans (hb1.mono hA.size)
  have hT1 := HT.out.below hw1
  have c0 : w1.cell? ⟨g, 0, none⟩ = some (.string st.now.1) := (blk_cell hB 0).trans g0
  have c1 : w1.cell? ⟨g, 1, none⟩ = some (.string st.now.2) := (blk_cell hB 1).trans g1
  have o0 : w1.cell? ⟨w.heap.size, 0, none⟩ = some (.int .i64 0) := blk_cell hO1 0
  have o1 : w1.cell? ⟨w.heap.size, 1, none⟩ = some (.bool false) := blk_cell hO1 1
  have o2 : w1.cell? ⟨w.heap.size, 2, none⟩ = some (.string mr) := blk_cell hO1 2
  have r2 : w1.cell? ⟨b, 2, none⟩ = some (.int .i64 st.room) := by obtain ⟨_, _, _, _, h, _⟩ := hT1; exact blk_cell h 2
  have hgl := blk_lt hB
  have hbl1 : b < w1.heap.size := Nat.lt_of_lt_of_le hbl hw1.size
  have hol1 := blk_lt hO1
  have HO1 := Lib.hid hO1
  generalize st.now.1 = p at *
  generalize st.now.2 = q at *
  clear hB g0 g1 hA hb1 h7 hO1
  go_wp2_with fail
  refine region_lay (by kernel_rfl) (by kernel_rfl) ?_
  repeat (go_big_quiet_step (fail))
  refine wpQuiet_nil ?_
  rintro _ ⟨zq, rfl⟩
  have hb2 := w1.lay_below zq
  have hT2 := hT1.below hb2
  have hO2 := blk_below HO1.out hb2
  have hw2 := hw1.trans (hb2.mono hw1.size)
  generalize w1.lay zq = w2 at *
  have HO2 := Lib.hid hO2
  clear c0 c1 o0 o1 o2 r2 hO2 hT1 hw1 HO1
  go_wp2_with fail
  refine (rcount_any base b row st _ hok.calls0 hok.calls1 hT2).mono ?_
  rintro e w3 ⟨rfl, hT3, hF3⟩
  have hO3 := hF3.keep HO2.out (by omega) (by simp)
  have hF : Fr w w3 b row := (Fr.of_below hw2 _ _).trans' hF3.mono
  rw [show (!decide (st.crash = st.calls + 1)) = false from by rw [decide_eq_true hcr]; rfl]
  have HC := Lib.hid hcr
  clear hcr hO3
  go_wp2
  go_ret
  have hp : putF st ⟨0, false, mr⟩ = cntF st := by unfold putF cntF; rw [if_pos HC.out]
  exact ⟨by rw [show putC st = 16 from if_pos HC.out]; rfl, row, by rw [hp]; exact hT3, RowOk.refl _ _, hF⟩

set_option maxRecDepth 100000 in
set_option maxHeartbeats 1600000 in
theorem rchange_add0 (base b : Nat) (row : Option Nat) (st : TapeSt) (mr : ByteArray) (w : World) (hT : RefAt w base b row st) (hok : st.Ok) (hbare : Bare st.loose) (hbs : base ≤ w.heap.size) (hd : st.down = false)
    (hcs : mr.size ≤ 1000000000000) (hf : ¬ st.room < (st.now.1.size : Int) + st.now.2.size + mr.size) (hcr : ¬ st.crash = st.calls + 1) :
    Calls Try.prog 33 #[.pointer (some ⟨b, 0, none⟩), .agg #[.int .i64 0, .bool false, .string mr]] w fun e w' =>
      RcPost base b row st ⟨0, false, mr⟩ w e w' := by
  have h7 := hT.c7
  rw [hd] at h7
  have hbl : b < w.heap.size := by obtain ⟨_, _, _, _, hB, _⟩ := hT; exact blk_lt hB
  have hnb := nowF_size st.loose (st.s0, st.s1)
  have hns : st.now.1.size + st.now.2.size ≤ 1000000000000 := Nat.le_trans hnb hok.size
  clear hnb
  have HT := Lib.hid hT
  clear hT hd
  go_enter Try.func33, Try.ntmps33
  go_wp2_with fail
  have hA := (Below.refl w.heap.size w).alloc (Nat.le_refl _) (Obj.cells #[Value.int IntKind.i64 0, Value.bool false, Value.string mr] 68)
  refine (rnow_any base b row st _ (HT.out.below hA) hok.side hbare hok.size hok.many (Nat.le_trans hbs hA.size)).mono ?_
  rintro e w1 ⟨v1, rfl, ⟨g, c, cur, rfl, _, hB, g0, g1⟩, hb1⟩
  have hO1 := blk_below (blk_new w (Obj.cells #[Value.int IntKind.i64 0, Value.bool false, Value.string mr] 68)) hb1
  have hw1 := hA.trans (hb1.mono hA.size)
  have hT1 := HT.out.below hw1
  have c0 : w1.cell? ⟨g, 0, none⟩ = some (.string st.now.1) := (blk_cell hB 0).trans g0
  have c1 : w1.cell? ⟨g, 1, none⟩ = some (.string st.now.2) := (blk_cell hB 1).trans g1
  have o0 : w1.cell? ⟨w.heap.size, 0, none⟩ = some (.int .i64 0) := blk_cell hO1 0
  have o1 : w1.cell? ⟨w.heap.size, 1, none⟩ = some (.bool false) := blk_cell hO1 1
  have o2 : w1.cell? ⟨w.heap.size, 2, none⟩ = some (.string mr) := blk_cell hO1 2
  have r2 : w1.cell? ⟨b, 2, none⟩ = some (.int .i64 st.room) := by obtain ⟨_, _, _, _, h, _⟩ := hT1; exact blk_cell h 2
  have hgl := blk_lt hB
  have hbl1 : b < w1.heap.size := Nat.lt_of_lt_of_le hbl hw1.size
  have hol1 := blk_lt hO1
  have HO1 := Lib.hid hO1
  generalize st.now.1 = p at *
  generalize st.now.2 = q at *
  clear hB g0 g1 hA hb1 h7 hO1
  go_wp2_with fail
  refine region_lay (by kernel_rfl) (by kernel_rfl) ?_
  repeat (go_big_quiet_step (fail))
  refine wpQuiet_nil ?_
  rintro _ ⟨zq, rfl⟩
  have hb2 := w1.lay_below zq
  have hT2 := hT1.below hb2
  have hO2 := blk_below HO1.out hb2
  have hw2 := hw1.trans (hb2.mono hw1.size)
  generalize w1.lay zq = w2 at *
  have HO2 := Lib.hid hO2
  clear c0 c1 o0 o1 o2 r2 hO2 hT1 hw1 HO1
  go_wp2_with fail
  refine (rcount_any base b row st _ hok.calls0 hok.calls1 hT2).mono ?_
  rintro e w3 ⟨rfl, hT3, hF3⟩
  have hO3 := hF3.keep HO2.out (by omega) (by simp)
  have hF : Fr w w3 b row := (Fr.of_below hw2 _ _).trans' hF3.mono
  rw [show (!decide (st.crash = st.calls + 1)) = true from by rw [decide_eq_false hcr]; rfl]
  have HC := Lib.hid hcr
  clear hcr
  obtain ⟨sv, lv, hr3, hbb3, hB3, hP3, hW3⟩ := hT3
  have hn3 := hok.many
  have hhl : (cntF st).loose = st.loose := rfl
  rw [hhl] at hW3
  have d0 : w3.cell? ⟨w.heap.size, 0, none⟩ = some (.int .i64 0) := blk_cell hO3 0
  have d1 : w3.cell? ⟨w.heap.size, 1, none⟩ = some (.bool false) := blk_cell hO3 1
  have d2 : w3.cell? ⟨w.heap.size, 2, none⟩ = some (.string mr) := blk_cell hO3 2
  have k1 : w3.cell? ⟨b, 1, none⟩ = some lv := blk_cell hB3 1
  have g1 := blk_frozen hB3 1
  have hnb : lv.ownBlock ≠ some b := fun e => own_ne hW3 hB3 (by decide) e.symm
  have HROW := Lib.hid (fun k hk => own_lt hW3 k hk)
  have OWN := Lib.hid ((hW3.alloc (.cells #[.int .i64 0, .bool false, .string mr] 68)).drew)
  have NEWS := Lib.hid (news3 w3 (.int .i64 0) (.bool false) (.string mr) 68)
  have hb3 := blk_lt hB3
  have hz3 := blk_lt hO3
  have hbs3 : base ≤ w3.heap.size := by have := hF.size; omega
  have HB3 := Lib.hid hB3
  have HP3 := Lib.hid hP3
  have HR3 := Lib.hid hr3
  have HNB := Lib.hid hnb
  have HF := Lib.hid hF
  have hsz := hF.size
  obtain ⟨i0, hi, hz0, hz1, hz2⟩ := info_parts info68
  have Hi := Lib.hid hi
  have Hz0 := Lib.hid hz0
  have Hz1 := Lib.hid hz1
  have Hz2 := Lib.hid hz2
  clear hB3 hO3 hP3 hr3 hnb hF hi hz0 hz1 hz2 hW3 hF3 hhl HO2 hT2 hw2 hb2
  go_wp2_with fail
  go_region_law (refine step_append_lies _ rfl (.tmp 53) (.tmp 55) 50 rfl base 68 i0 (.agg #[.int .i64 0, .bool false, .string ⟨#[]⟩]) 3 32 Try.underlying50 Hi.out Hz0.out Hz1.out Hz2.out rfl (by decide) lv st.loose.length (cellsOf st.loose) rfl OWN.out ⟨w3.heap.size, 0, none⟩ 1 1 [.int .i64 0, .bool false, .string mr] rfl rfl NEWS.out (one3 _ _ _ rfl rfl rfl) (by omega) (by unfold maxLen; omega) (by omega) (by simp; omega) (w3.heap.size + 1) (by simp) ?_; intro g' cap w4 hown4 hgr4 hat hlt4; have hB4 := blk_grown (blk_drew (blk_alloc HB3.out _)) hgr4 (fun e => HNB.out e.symm); have q1 : w4.cell? ⟨b, 1, none⟩ = some lv := blk_cell hB4 1; have rr1 := blk_frozen hB4 1; have HB4 := Lib.hid hB4; clear hB4)
  all_goals
    go_wp2
    go_ret
    have hgb : g' ≠ b := by
      rcases hat with hat | hat
      · intro e; exact HNB.out (by rw [hat, e])
      · omega
    have hFF : Fr w w4 b row := (HF.out.alloc _).drew.trans (Fr.of_grown hgr4 b) (fun j hj => .inl (HR3.out.symm.trans hj))
    have hF4 : Fr w3 w4 b row := (((Fr.refl w3 b row).alloc (Obj.cells #[.int .i64 0, .bool false, .string mr] 68)).drew).trans (Fr.of_grown hgr4 b) (fun j hj => .inl (HR3.out.symm.trans hj))
    have hF5 := hF4.set 1 (.slice (some ⟨g', 0, none⟩) (st.loose.length + 1) cap)
    refine ⟨by rw [show putC st = 0 from if_neg HC.out]; rfl, some g', ⟨sv, .slice (some ⟨g', 0, none⟩) (st.loose.length + 1) cap, rfl, hbb3, ?_, ?_, ?_⟩, ?_, hFF.set _ _⟩
    · refine (blk_set HB4.out 1 _).trans ?_
      simp [refCells, cntF, putF]
    · have hrow : ∀ k, row = some k → ∃ cs' t', w3.heap[k]? = some (.cells cs' t' (0, 0)) ∧ t' ≠ 9 := by
        intro k hk
        have h1 : (w3.alloc (.cells #[.int .i64 0, .bool false, .string mr] 68)).drew.ownsRow base 68 3 lv st.loose.length (cellsOf st.loose) := OWN.out
        obtain ⟨cs', h2⟩ := own_typed h1 k (HR3.out.trans hk)
        have h3 : k < w3.heap.size ∨ k = w3.heap.size := by have := blk_lt h2; simp at this; omega
        rcases h3 with h3 | h3
        · refine ⟨cs', 68, ?_, by decide⟩
          rw [← h2]
          exact (Below.heap_alloc w3 _ k h3).symm
        · exfalso
          have := HROW.out k (HR3.out.trans hk)
          omega
      exact HP3.out.fr hF5 HB3.out (by decide) hrow
    · have h5 := own_setCell hown4 (p := ⟨b, 1, none⟩) (by simp only [Value.ownBlock, ne_eq, Option.some.injEq]; omega) (.slice (some ⟨g', 0, none⟩) (st.loose.length + 1) cap)
      have hl : (putF st ⟨0, false, mr⟩).loose = st.loose ++ [⟨0, false, mr⟩] := by unfold putF; simp [HC.out]
      rw [hl, cellsOf_snoc]
      simpa using h5
    · intro k hk
      rcases hat with hat | hat
      · left; rw [← HR3.out, hat]; exact hk
      · right
        have : g' = k := by simpa using hk
        omega

set_option maxRecDepth 100000 in
set_option maxHeartbeats 1600000 in
theorem rchange_wipe0c (base b : Nat) (row : Option Nat) (st : TapeSt) (mr : ByteArray) (w : World) (hT : RefAt w base b row st) (hok : st.Ok) (hbare : Bare st.loose) (hbs : base ≤ w.heap.size) (hd : st.down = false)
    (hcs : mr.size ≤ 1000000000000) (hcr : st.crash = st.calls + 1) :
    Calls Try.prog 33 #[.pointer (some ⟨b, 0, none⟩), .agg #[.int .i64 0, .bool true, .string mr]] w fun e w' =>
      RcPost base b row st ⟨0, true, mr⟩ w e w' := by
  have h7 := hT.c7
  rw [hd] at h7
  have hbl : b < w.heap.size := by obtain ⟨_, _, _, _, hB, _⟩ := hT; exact blk_lt hB
  have hnb := nowF_size st.loose (st.s0, st.s1)
  have hns : st.now.1.size + st.now.2.size ≤ 1000000000000 := Nat.le_trans hnb hok.size
  clear hnb
  have HT := Lib.hid hT
  clear hT hd
  go_enter Try.func33, Try.ntmps33
  go_wp2_with fail
  have hA := (Below.refl w.heap.size w).alloc (Nat.le_refl _) (Obj.cells #[Value.int IntKind.i64 0, Value.bool true, Value.string mr] 68)
  refine (rnow_any base b row st _ (HT.out.below hA) hok.side hbare hok.size hok.many (Nat.le_trans hbs hA.size)).mono ?_
  rintro e w1 ⟨v1, rfl, ⟨g, c, cur, rfl, _, hB, g0, g1⟩, hb1⟩
  have hO1 := blk_below (blk_new w (Obj.cells #[Value.int IntKind.i64 0, Value.bool true, Value.string mr] 68)) hb1
  have hw1 := hA.trans (hb1.mono hA.size)
  have hT1 := HT.out.below hw1
  have c0 : w1.cell? ⟨g, 0, none⟩ = some (.string st.now.1) := (blk_cell hB 0).trans g0
  have c1 : w1.cell? ⟨g, 1, none⟩ = some (.string st.now.2) := (blk_cell hB 1).trans g1
  have o0 : w1.cell? ⟨w.heap.size, 0, none⟩ = some (.int .i64 0) := blk_cell hO1 0
  have o1 : w1.cell? ⟨w.heap.size, 1, none⟩ = some (.bool true) := blk_cell hO1 1
  have o2 : w1.cell? ⟨w.heap.size, 2, none⟩ = some (.string mr) := blk_cell hO1 2
  have r2 : w1.cell? ⟨b, 2, none⟩ = some (.int .i64 st.room) := by obtain ⟨_, _, _, _, h, _⟩ := hT1; exact blk_cell h 2
  have hgl := blk_lt hB
  have hbl1 : b < w1.heap.size := Nat.lt_of_lt_of_le hbl hw1.size
  have hol1 := blk_lt hO1
  have HO1 := Lib.hid hO1
  generalize st.now.1 = p at *
  generalize st.now.2 = q at *
  clear hB g0 g1 hA hb1 h7 hO1
  go_wp2_with fail
  refine region_lay (by kernel_rfl) (by kernel_rfl) ?_
  repeat (go_big_quiet_step (fail))
  refine wpQuiet_nil ?_
  rintro _ ⟨zq, rfl⟩
  have hb2 := w1.lay_below zq
  have hT2 := hT1.below hb2
  have hO2 := blk_below HO1.out hb2
  have hw2 := hw1.trans (hb2.mono hw1.size)
  generalize w1.lay zq = w2 at *
  have HO2 := Lib.hid hO2
  clear c0 c1 o0 o1 o2 r2 hO2 hT1 hw1 HO1
  go_wp2_with fail
  refine (rcount_any base b row st _ hok.calls0 hok.calls1 hT2).mono ?_
  rintro e w3 ⟨rfl, hT3, hF3⟩
  have hO3 := hF3.keep HO2.out (by omega) (by simp)
  have hF : Fr w w3 b row := (Fr.of_below hw2 _ _).trans' hF3.mono
  rw [show (!decide (st.crash = st.calls + 1)) = false from by rw [decide_eq_true hcr]; rfl]
  have HC := Lib.hid hcr
  clear hcr hO3
  go_wp2
  go_ret
  have hp : putF st ⟨0, true, mr⟩ = cntF st := by unfold putF cntF; rw [if_pos HC.out]
  exact ⟨by rw [show putC st = 16 from if_pos HC.out]; rfl, row, by rw [hp]; exact hT3, RowOk.refl _ _, hF⟩

set_option maxRecDepth 100000 in
set_option maxHeartbeats 1600000 in
theorem rchange_wipe0 (base b : Nat) (row : Option Nat) (st : TapeSt) (mr : ByteArray) (w : World) (hT : RefAt w base b row st) (hok : st.Ok) (hbare : Bare st.loose) (hbs : base ≤ w.heap.size) (hd : st.down = false)
    (hcs : mr.size ≤ 1000000000000) (hcr : ¬ st.crash = st.calls + 1) :
    Calls Try.prog 33 #[.pointer (some ⟨b, 0, none⟩), .agg #[.int .i64 0, .bool true, .string mr]] w fun e w' =>
      RcPost base b row st ⟨0, true, mr⟩ w e w' := by
  have h7 := hT.c7
  rw [hd] at h7
  have hbl : b < w.heap.size := by obtain ⟨_, _, _, _, hB, _⟩ := hT; exact blk_lt hB
  have hnb := nowF_size st.loose (st.s0, st.s1)
  have hns : st.now.1.size + st.now.2.size ≤ 1000000000000 := Nat.le_trans hnb hok.size
  clear hnb
  have HT := Lib.hid hT
  clear hT hd
  go_enter Try.func33, Try.ntmps33
  go_wp2_with fail
  have hA := (Below.refl w.heap.size w).alloc (Nat.le_refl _) (Obj.cells #[Value.int IntKind.i64 0, Value.bool true, Value.string mr] 68)
  refine (rnow_any base b row st _ (HT.out.below hA) hok.side hbare hok.size hok.many (Nat.le_trans hbs hA.size)).mono ?_
  rintro e w1 ⟨v1, rfl, ⟨g, c, cur, rfl, _, hB, g0, g1⟩, hb1⟩
  have hO1 := blk_below (blk_new w (Obj.cells #[Value.int IntKind.i64 0, Value.bool true, Value.string mr] 68)) hb1
  have hw1 := hA.trans (hb1.mono hA.size)
  have hT1 := HT.out.below hw1
  have c0 : w1.cell? ⟨g, 0, none⟩ = some (.string st.now.1) := (blk_cell hB 0).trans g0
  have c1 : w1.cell? ⟨g, 1, none⟩ = some (.string st.now.2) := (blk_cell hB 1).trans g1
  have o0 : w1.cell? ⟨w.heap.size, 0, none⟩ = some (.int .i64 0) := blk_cell hO1 0
  have o1 : w1.cell? ⟨w.heap.size, 1, none⟩ = some (.bool true) := blk_cell hO1 1
  have o2 : w1.cell? ⟨w.heap.size, 2, none⟩ = some (.string mr) := blk_cell hO1 2
  have r2 : w1.cell? ⟨b, 2, none⟩ = some (.int .i64 st.room) := by obtain ⟨_, _, _, _, h, _⟩ := hT1; exact blk_cell h 2
  have hgl := blk_lt hB
  have hbl1 : b < w1.heap.size := Nat.lt_of_lt_of_le hbl hw1.size
  have hol1 := blk_lt hO1
  have HO1 := Lib.hid hO1
  generalize st.now.1 = p at *
  generalize st.now.2 = q at *
  clear hB g0 g1 hA hb1 h7 hO1
  go_wp2_with fail
  refine region_lay (by kernel_rfl) (by kernel_rfl) ?_
  repeat (go_big_quiet_step (fail))
  refine wpQuiet_nil ?_
  rintro _ ⟨zq, rfl⟩
  have hb2 := w1.lay_below zq
  have hT2 := hT1.below hb2
  have hO2 := blk_below HO1.out hb2
  have hw2 := hw1.trans (hb2.mono hw1.size)
  generalize w1.lay zq = w2 at *
  have HO2 := Lib.hid hO2
  clear c0 c1 o0 o1 o2 r2 hO2 hT1 hw1 HO1
  go_wp2_with fail
  refine (rcount_any base b row st _ hok.calls0 hok.calls1 hT2).mono ?_
  rintro e w3 ⟨rfl, hT3, hF3⟩
  have hO3 := hF3.keep HO2.out (by omega) (by simp)
  have hF : Fr w w3 b row := (Fr.of_below hw2 _ _).trans' hF3.mono
  rw [show (!decide (st.crash = st.calls + 1)) = true from by rw [decide_eq_false hcr]; rfl]
  have HC := Lib.hid hcr
  clear hcr
  obtain ⟨sv, lv, hr3, hbb3, hB3, hP3, hW3⟩ := hT3
  have hn3 := hok.many
  have hhl : (cntF st).loose = st.loose := rfl
  rw [hhl] at hW3
  have d0 : w3.cell? ⟨w.heap.size, 0, none⟩ = some (.int .i64 0) := blk_cell hO3 0
  have d1 : w3.cell? ⟨w.heap.size, 1, none⟩ = some (.bool true) := blk_cell hO3 1
  have d2 : w3.cell? ⟨w.heap.size, 2, none⟩ = some (.string mr) := blk_cell hO3 2
  have k1 : w3.cell? ⟨b, 1, none⟩ = some lv := blk_cell hB3 1
  have g1 := blk_frozen hB3 1
  have hnb : lv.ownBlock ≠ some b := fun e => own_ne hW3 hB3 (by decide) e.symm
  have HROW := Lib.hid (fun k hk => own_lt hW3 k hk)
  have OWN := Lib.hid ((hW3.alloc (.cells #[.int .i64 0, .bool true, .string mr] 68)).drew)
  have NEWS := Lib.hid (news3 w3 (.int .i64 0) (.bool true) (.string mr) 68)
  have hb3 := blk_lt hB3
  have hz3 := blk_lt hO3
  have hbs3 : base ≤ w3.heap.size := by have := hF.size; omega
  have HB3 := Lib.hid hB3
  have HP3 := Lib.hid hP3
  have HR3 := Lib.hid hr3
  have HNB := Lib.hid hnb
  have HF := Lib.hid hF
  have hsz := hF.size
  obtain ⟨i0, hi, hz0, hz1, hz2⟩ := info_parts info68
  have Hi := Lib.hid hi
  have Hz0 := Lib.hid hz0
  have Hz1 := Lib.hid hz1
  have Hz2 := Lib.hid hz2
  clear hB3 hO3 hP3 hr3 hnb hF hi hz0 hz1 hz2 hW3 hF3 hhl HO2 hT2 hw2 hb2
  go_wp2_with fail
  go_region_law (refine step_append_lies _ rfl (.tmp 53) (.tmp 55) 50 rfl base 68 i0 (.agg #[.int .i64 0, .bool false, .string ⟨#[]⟩]) 3 32 Try.underlying50 Hi.out Hz0.out Hz1.out Hz2.out rfl (by decide) lv st.loose.length (cellsOf st.loose) rfl OWN.out ⟨w3.heap.size, 0, none⟩ 1 1 [.int .i64 0, .bool true, .string mr] rfl rfl NEWS.out (one3 _ _ _ rfl rfl rfl) (by omega) (by unfold maxLen; omega) (by omega) (by simp; omega) (w3.heap.size + 1) (by simp) ?_; intro g' cap w4 hown4 hgr4 hat hlt4; have hB4 := blk_grown (blk_drew (blk_alloc HB3.out _)) hgr4 (fun e => HNB.out e.symm); have q1 : w4.cell? ⟨b, 1, none⟩ = some lv := blk_cell hB4 1; have rr1 := blk_frozen hB4 1; have HB4 := Lib.hid hB4; clear hB4)
  all_goals
    go_wp2
    go_ret
    have hgb : g' ≠ b := by
      rcases hat with hat | hat
      · intro e; exact HNB.out (by rw [hat, e])
      · omega
    have hFF : Fr w w4 b row := (HF.out.alloc _).drew.trans (Fr.of_grown hgr4 b) (fun j hj => .inl (HR3.out.symm.trans hj))
    have hF4 : Fr w3 w4 b row := (((Fr.refl w3 b row).alloc (Obj.cells #[.int .i64 0, .bool true, .string mr] 68)).drew).trans (Fr.of_grown hgr4 b) (fun j hj => .inl (HR3.out.symm.trans hj))
    have hF5 := hF4.set 1 (.slice (some ⟨g', 0, none⟩) (st.loose.length + 1) cap)
    refine ⟨by rw [show putC st = 0 from if_neg HC.out]; rfl, some g', ⟨sv, .slice (some ⟨g', 0, none⟩) (st.loose.length + 1) cap, rfl, hbb3, ?_, ?_, ?_⟩, ?_, hFF.set _ _⟩
    · refine (blk_set HB4.out 1 _).trans ?_
      simp [refCells, cntF, putF]
    · have hrow : ∀ k, row = some k → ∃ cs' t', w3.heap[k]? = some (.cells cs' t' (0, 0)) ∧ t' ≠ 9 := by
        intro k hk
        have h1 : (w3.alloc (.cells #[.int .i64 0, .bool true, .string mr] 68)).drew.ownsRow base 68 3 lv st.loose.length (cellsOf st.loose) := OWN.out
        obtain ⟨cs', h2⟩ := own_typed h1 k (HR3.out.trans hk)
        have h3 : k < w3.heap.size ∨ k = w3.heap.size := by have := blk_lt h2; simp at this; omega
        rcases h3 with h3 | h3
        · refine ⟨cs', 68, ?_, by decide⟩
          rw [← h2]
          exact (Below.heap_alloc w3 _ k h3).symm
        · exfalso
          have := HROW.out k (HR3.out.trans hk)
          omega
      exact HP3.out.fr hF5 HB3.out (by decide) hrow
    · have h5 := own_setCell hown4 (p := ⟨b, 1, none⟩) (by simp only [Value.ownBlock, ne_eq, Option.some.injEq]; omega) (.slice (some ⟨g', 0, none⟩) (st.loose.length + 1) cap)
      have hl : (putF st ⟨0, true, mr⟩).loose = st.loose ++ [⟨0, true, mr⟩] := by unfold putF; simp [HC.out]
      rw [hl, cellsOf_snoc]
      simpa using h5
    · intro k hk
      rcases hat with hat | hat
      · left; rw [← HR3.out, hat]; exact hk
      · right
        have : g' = k := by simpa using hk
        omega

set_option maxRecDepth 100000 in
set_option maxHeartbeats 1600000 in
theorem rchange_full1 (base b : Nat) (row : Option Nat) (st : TapeSt) (mr : ByteArray) (w : World) (hT : RefAt w base b row st) (hok : st.Ok) (hbare : Bare st.loose) (hbs : base ≤ w.heap.size) (hd : st.down = false)
    (hcs : mr.size ≤ 1000000000000) (hf : st.room < (st.now.1.size : Int) + st.now.2.size + mr.size) :
    Calls Try.prog 33 #[.pointer (some ⟨b, 0, none⟩), .agg #[.int .i64 1, .bool false, .string mr]] w fun e w' =>
      e = .returned (.int .i64 15) ∧ RefAt w' base b row st ∧ Below w.heap.size w w' := by
  have h7 := hT.c7
  rw [hd] at h7
  have hbl : b < w.heap.size := by obtain ⟨_, _, _, _, hB, _⟩ := hT; exact blk_lt hB
  have hnb := nowF_size st.loose (st.s0, st.s1)
  have hns : st.now.1.size + st.now.2.size ≤ 1000000000000 := Nat.le_trans hnb hok.size
  clear hnb
  have HT := Lib.hid hT
  clear hT hd
  go_enter Try.func33, Try.ntmps33
  go_wp2_with fail
  have hA := (Below.refl w.heap.size w).alloc (Nat.le_refl _) (Obj.cells #[Value.int IntKind.i64 1, Value.bool false, Value.string mr] 68)
  refine (rnow_any base b row st _ (HT.out.below hA) hok.side hbare hok.size hok.many (Nat.le_trans hbs hA.size)).mono ?_
  rintro e w1 ⟨v1, rfl, ⟨g, c, cur, rfl, _, hB, g0, g1⟩, hb1⟩
  have hO1 := blk_below (blk_new w (Obj.cells #[Value.int IntKind.i64 1, Value.bool false, Value.string mr] 68)) hb1
  have hw1 := hA.trans (hb1.mono hA.size)
  have hT1 := HT.out.below hw1
  have c0 : w1.cell? ⟨g, 0, none⟩ = some (.string st.now.1) := (blk_cell hB 0).trans g0
  have c1 : w1.cell? ⟨g, 1, none⟩ = some (.string st.now.2) := (blk_cell hB 1).trans g1
  have o0 : w1.cell? ⟨w.heap.size, 0, none⟩ = some (.int .i64 1) := blk_cell hO1 0
  have o1 : w1.cell? ⟨w.heap.size, 1, none⟩ = some (.bool false) := blk_cell hO1 1
  have o2 : w1.cell? ⟨w.heap.size, 2, none⟩ = some (.string mr) := blk_cell hO1 2
  have r2 : w1.cell? ⟨b, 2, none⟩ = some (.int .i64 st.room) := by obtain ⟨_, _, _, _, h, _⟩ := hT1; exact blk_cell h 2
  have hgl := blk_lt hB
  have hbl1 : b < w1.heap.size := Nat.lt_of_lt_of_le hbl hw1.size
  have hol1 := blk_lt hO1
  have HO1 := Lib.hid hO1
  generalize st.now.1 = p at *
  generalize st.now.2 = q at *
  clear hB g0 g1 hA hb1 h7 hO1
  go_wp2_with fail
  refine region_lay (by kernel_rfl) (by kernel_rfl) ?_
  repeat (go_big_quiet_step (fail))
  refine wpQuiet_nil ?_
  rintro _ ⟨zq, rfl⟩
  have hb2 := w1.lay_below zq
  have hT2 := hT1.below hb2
  have hO2 := blk_below HO1.out hb2
  have hw2 := hw1.trans (hb2.mono hw1.size)
  generalize w1.lay zq = w2 at *
  have HO2 := Lib.hid hO2
  clear c0 c1 o0 o1 o2 r2 hO2 hT1 hw1 HO1
  go_wp2
  go_ret
  exact ⟨rfl, hT2, hw2⟩

set_option maxRecDepth 100000 in
set_option maxHeartbeats 1600000 in
theorem rchange_add1c (base b : Nat) (row : Option Nat) (st : TapeSt) (mr : ByteArray) (w : World) (hT : RefAt w base b row st) (hok : st.Ok) (hbare : Bare st.loose) (hbs : base ≤ w.heap.size) (hd : st.down = false)
    (hcs : mr.size ≤ 1000000000000) (hf : ¬ st.room < (st.now.1.size : Int) + st.now.2.size + mr.size) (hcr : st.crash = st.calls + 1) :
    Calls Try.prog 33 #[.pointer (some ⟨b, 0, none⟩), .agg #[.int .i64 1, .bool false, .string mr]] w fun e w' =>
      RcPost base b row st ⟨1, false, mr⟩ w e w' := by
  have h7 := hT.c7
  rw [hd] at h7
  have hbl : b < w.heap.size := by obtain ⟨_, _, _, _, hB, _⟩ := hT; exact blk_lt hB
  have hnb := nowF_size st.loose (st.s0, st.s1)
  have hns : st.now.1.size + st.now.2.size ≤ 1000000000000 := Nat.le_trans hnb hok.size
  clear hnb
  have HT := Lib.hid hT
  clear hT hd
  go_enter Try.func33, Try.ntmps33
  go_wp2_with fail
  have hA := (Below.refl w.heap.size w).alloc (Nat.le_refl _) (Obj.cells #[Value.int IntKind.i64 1, Value.bool false, Value.string mr] 68)
  refine (rnow_any base b row st _ (HT.out.below hA) hok.side hbare hok.size hok.many (Nat.le_trans hbs hA.size)).mono ?_
  rintro e w1 ⟨v1, rfl, ⟨g, c, cur, rfl, _, hB, g0, g1⟩, hb1⟩
  have hO1 := blk_below (blk_new w (Obj.cells #[Value.int IntKind.i64 1, Value.bool false, Value.string mr] 68)) hb1
  have hw1 := hA.trans (hb1.mono hA.size)
  have hT1 := HT.out.below hw1
  have c0 : w1.cell? ⟨g, 0, none⟩ = some (.string st.now.1) := (blk_cell hB 0).trans g0
  have c1 : w1.cell? ⟨g, 1, none⟩ = some (.string st.now.2) := (blk_cell hB 1).trans g1
  have o0 : w1.cell? ⟨w.heap.size, 0, none⟩ = some (.int .i64 1) := blk_cell hO1 0
  have o1 : w1.cell? ⟨w.heap.size, 1, none⟩ = some (.bool false) := blk_cell hO1 1
  have o2 : w1.cell? ⟨w.heap.size, 2, none⟩ = some (.string mr) := blk_cell hO1 2
  have r2 : w1.cell? ⟨b, 2, none⟩ = some (.int .i64 st.room) := by obtain ⟨_, _, _, _, h, _⟩ := hT1; exact blk_cell h 2
  have hgl := blk_lt hB
  have hbl1 : b < w1.heap.size := Nat.lt_of_lt_of_le hbl hw1.size
  have hol1 := blk_lt hO1
  have HO1 := Lib.hid hO1
  generalize st.now.1 = p at *
  generalize st.now.2 = q at *
  clear hB g0 g1 hA hb1 h7 hO1
  go_wp2_with fail
  refine region_lay (by kernel_rfl) (by kernel_rfl) ?_
  repeat (go_big_quiet_step (fail))
  refine wpQuiet_nil ?_
  rintro _ ⟨zq, rfl⟩
  have hb2 := w1.lay_below zq
  have hT2 := hT1.below hb2
  have hO2 := blk_below HO1.out hb2
  have hw2 := hw1.trans (hb2.mono hw1.size)
  generalize w1.lay zq = w2 at *
  have HO2 := Lib.hid hO2
  clear c0 c1 o0 o1 o2 r2 hO2 hT1 hw1 HO1
  go_wp2_with fail
  refine (rcount_any base b row st _ hok.calls0 hok.calls1 hT2).mono ?_
  rintro e w3 ⟨rfl, hT3, hF3⟩
  have hO3 := hF3.keep HO2.out (by omega) (by simp)
  have hF : Fr w w3 b row := (Fr.of_below hw2 _ _).trans' hF3.mono
  rw [show (!decide (st.crash = st.calls + 1)) = false from by rw [decide_eq_true hcr]; rfl]
  have HC := Lib.hid hcr
  clear hcr hO3
  go_wp2
  go_ret
  have hp : putF st ⟨1, false, mr⟩ = cntF st := by unfold putF cntF; rw [if_pos HC.out]
  exact ⟨by rw [show putC st = 16 from if_pos HC.out]; rfl, row, by rw [hp]; exact hT3, RowOk.refl _ _, hF⟩

set_option maxRecDepth 100000 in
set_option maxHeartbeats 1600000 in
theorem rchange_add1 (base b : Nat) (row : Option Nat) (st : TapeSt) (mr : ByteArray) (w : World) (hT : RefAt w base b row st) (hok : st.Ok) (hbare : Bare st.loose) (hbs : base ≤ w.heap.size) (hd : st.down = false)
    (hcs : mr.size ≤ 1000000000000) (hf : ¬ st.room < (st.now.1.size : Int) + st.now.2.size + mr.size) (hcr : ¬ st.crash = st.calls + 1) :
    Calls Try.prog 33 #[.pointer (some ⟨b, 0, none⟩), .agg #[.int .i64 1, .bool false, .string mr]] w fun e w' =>
      RcPost base b row st ⟨1, false, mr⟩ w e w' := by
  have h7 := hT.c7
  rw [hd] at h7
  have hbl : b < w.heap.size := by obtain ⟨_, _, _, _, hB, _⟩ := hT; exact blk_lt hB
  have hnb := nowF_size st.loose (st.s0, st.s1)
  have hns : st.now.1.size + st.now.2.size ≤ 1000000000000 := Nat.le_trans hnb hok.size
  clear hnb
  have HT := Lib.hid hT
  clear hT hd
  go_enter Try.func33, Try.ntmps33
  go_wp2_with fail
  have hA := (Below.refl w.heap.size w).alloc (Nat.le_refl _) (Obj.cells #[Value.int IntKind.i64 1, Value.bool false, Value.string mr] 68)
  refine (rnow_any base b row st _ (HT.out.below hA) hok.side hbare hok.size hok.many (Nat.le_trans hbs hA.size)).mono ?_
  rintro e w1 ⟨v1, rfl, ⟨g, c, cur, rfl, _, hB, g0, g1⟩, hb1⟩
  have hO1 := blk_below (blk_new w (Obj.cells #[Value.int IntKind.i64 1, Value.bool false, Value.string mr] 68)) hb1
  have hw1 := hA.trans (hb1.mono hA.size)
  have hT1 := HT.out.below hw1
  have c0 : w1.cell? ⟨g, 0, none⟩ = some (.string st.now.1) := (blk_cell hB 0).trans g0
  have c1 : w1.cell? ⟨g, 1, none⟩ = some (.string st.now.2) := (blk_cell hB 1).trans g1
  have o0 : w1.cell? ⟨w.heap.size, 0, none⟩ = some (.int .i64 1) := blk_cell hO1 0
  have o1 : w1.cell? ⟨w.heap.size, 1, none⟩ = some (.bool false) := blk_cell hO1 1
  have o2 : w1.cell? ⟨w.heap.size, 2, none⟩ = some (.string mr) := blk_cell hO1 2
  have r2 : w1.cell? ⟨b, 2, none⟩ = some (.int .i64 st.room) := by obtain ⟨_, _, _, _, h, _⟩ := hT1; exact blk_cell h 2
  have hgl := blk_lt hB
  have hbl1 : b < w1.heap.size := Nat.lt_of_lt_of_le hbl hw1.size
  have hol1 := blk_lt hO1
  have HO1 := Lib.hid hO1
  generalize st.now.1 = p at *
  generalize st.now.2 = q at *
  clear hB g0 g1 hA hb1 h7 hO1
  go_wp2_with fail
  refine region_lay (by kernel_rfl) (by kernel_rfl) ?_
  repeat (go_big_quiet_step (fail))
  refine wpQuiet_nil ?_
  rintro _ ⟨zq, rfl⟩
  have hb2 := w1.lay_below zq
  have hT2 := hT1.below hb2
  have hO2 := blk_below HO1.out hb2
  have hw2 := hw1.trans (hb2.mono hw1.size)
  generalize w1.lay zq = w2 at *
  have HO2 := Lib.hid hO2
  clear c0 c1 o0 o1 o2 r2 hO2 hT1 hw1 HO1
  go_wp2_with fail
  refine (rcount_any base b row st _ hok.calls0 hok.calls1 hT2).mono ?_
  rintro e w3 ⟨rfl, hT3, hF3⟩
  have hO3 := hF3.keep HO2.out (by omega) (by simp)
  have hF : Fr w w3 b row := (Fr.of_below hw2 _ _).trans' hF3.mono
  rw [show (!decide (st.crash = st.calls + 1)) = true from by rw [decide_eq_false hcr]; rfl]
  have HC := Lib.hid hcr
  clear hcr
  obtain ⟨sv, lv, hr3, hbb3, hB3, hP3, hW3⟩ := hT3
  have hn3 := hok.many
  have hhl : (cntF st).loose = st.loose := rfl
  rw [hhl] at hW3
  have d0 : w3.cell? ⟨w.heap.size, 0, none⟩ = some (.int .i64 1) := blk_cell hO3 0
  have d1 : w3.cell? ⟨w.heap.size, 1, none⟩ = some (.bool false) := blk_cell hO3 1
  have d2 : w3.cell? ⟨w.heap.size, 2, none⟩ = some (.string mr) := blk_cell hO3 2
  have k1 : w3.cell? ⟨b, 1, none⟩ = some lv := blk_cell hB3 1
  have g1 := blk_frozen hB3 1
  have hnb : lv.ownBlock ≠ some b := fun e => own_ne hW3 hB3 (by decide) e.symm
  have HROW := Lib.hid (fun k hk => own_lt hW3 k hk)
  have OWN := Lib.hid ((hW3.alloc (.cells #[.int .i64 1, .bool false, .string mr] 68)).drew)
  have NEWS := Lib.hid (news3 w3 (.int .i64 1) (.bool false) (.string mr) 68)
  have hb3 := blk_lt hB3
  have hz3 := blk_lt hO3
  have hbs3 : base ≤ w3.heap.size := by have := hF.size; omega
  have HB3 := Lib.hid hB3
  have HP3 := Lib.hid hP3
  have HR3 := Lib.hid hr3
  have HNB := Lib.hid hnb
  have HF := Lib.hid hF
  have hsz := hF.size
  obtain ⟨i0, hi, hz0, hz1, hz2⟩ := info_parts info68
  have Hi := Lib.hid hi
  have Hz0 := Lib.hid hz0
  have Hz1 := Lib.hid hz1
  have Hz2 := Lib.hid hz2
  clear hB3 hO3 hP3 hr3 hnb hF hi hz0 hz1 hz2 hW3 hF3 hhl HO2 hT2 hw2 hb2
  go_wp2_with fail
  go_region_law (refine step_append_lies _ rfl (.tmp 53) (.tmp 55) 50 rfl base 68 i0 (.agg #[.int .i64 0, .bool false, .string ⟨#[]⟩]) 3 32 Try.underlying50 Hi.out Hz0.out Hz1.out Hz2.out rfl (by decide) lv st.loose.length (cellsOf st.loose) rfl OWN.out ⟨w3.heap.size, 0, none⟩ 1 1 [.int .i64 1, .bool false, .string mr] rfl rfl NEWS.out (one3 _ _ _ rfl rfl rfl) (by omega) (by unfold maxLen; omega) (by omega) (by simp; omega) (w3.heap.size + 1) (by simp) ?_; intro g' cap w4 hown4 hgr4 hat hlt4; have hB4 := blk_grown (blk_drew (blk_alloc HB3.out _)) hgr4 (fun e => HNB.out e.symm); have q1 : w4.cell? ⟨b, 1, none⟩ = some lv := blk_cell hB4 1; have rr1 := blk_frozen hB4 1; have HB4 := Lib.hid hB4; clear hB4)
  all_goals
    go_wp2
    go_ret
    have hgb : g' ≠ b := by
      rcases hat with hat | hat
      · intro e; exact HNB.out (by rw [hat, e])
      · omega
    have hFF : Fr w w4 b row := (HF.out.alloc _).drew.trans (Fr.of_grown hgr4 b) (fun j hj => .inl (HR3.out.symm.trans hj))
    have hF4 : Fr w3 w4 b row := (((Fr.refl w3 b row).alloc (Obj.cells #[.int .i64 1, .bool false, .string mr] 68)).drew).trans (Fr.of_grown hgr4 b) (fun j hj => .inl (HR3.out.symm.trans hj))
    have hF5 := hF4.set 1 (.slice (some ⟨g', 0, none⟩) (st.loose.length + 1) cap)
    refine ⟨by rw [show putC st = 0 from if_neg HC.out]; rfl, some g', ⟨sv, .slice (some ⟨g', 0, none⟩) (st.loose.length + 1) cap, rfl, hbb3, ?_, ?_, ?_⟩, ?_, hFF.set _ _⟩
    · refine (blk_set HB4.out 1 _).trans ?_
      simp [refCells, cntF, putF]
    · have hrow : ∀ k, row = some k → ∃ cs' t', w3.heap[k]? = some (.cells cs' t' (0, 0)) ∧ t' ≠ 9 := by
        intro k hk
        have h1 : (w3.alloc (.cells #[.int .i64 1, .bool false, .string mr] 68)).drew.ownsRow base 68 3 lv st.loose.length (cellsOf st.loose) := OWN.out
        obtain ⟨cs', h2⟩ := own_typed h1 k (HR3.out.trans hk)
        have h3 : k < w3.heap.size ∨ k = w3.heap.size := by have := blk_lt h2; simp at this; omega
        rcases h3 with h3 | h3
        · refine ⟨cs', 68, ?_, by decide⟩
          rw [← h2]
          exact (Below.heap_alloc w3 _ k h3).symm
        · exfalso
          have := HROW.out k (HR3.out.trans hk)
          omega
      exact HP3.out.fr hF5 HB3.out (by decide) hrow
    · have h5 := own_setCell hown4 (p := ⟨b, 1, none⟩) (by simp only [Value.ownBlock, ne_eq, Option.some.injEq]; omega) (.slice (some ⟨g', 0, none⟩) (st.loose.length + 1) cap)
      have hl : (putF st ⟨1, false, mr⟩).loose = st.loose ++ [⟨1, false, mr⟩] := by unfold putF; simp [HC.out]
      rw [hl, cellsOf_snoc]
      simpa using h5
    · intro k hk
      rcases hat with hat | hat
      · left; rw [← HR3.out, hat]; exact hk
      · right
        have : g' = k := by simpa using hk
        omega

set_option maxRecDepth 100000 in
set_option maxHeartbeats 1600000 in
theorem rchange_wipe1c (base b : Nat) (row : Option Nat) (st : TapeSt) (mr : ByteArray) (w : World) (hT : RefAt w base b row st) (hok : st.Ok) (hbare : Bare st.loose) (hbs : base ≤ w.heap.size) (hd : st.down = false)
    (hcs : mr.size ≤ 1000000000000) (hcr : st.crash = st.calls + 1) :
    Calls Try.prog 33 #[.pointer (some ⟨b, 0, none⟩), .agg #[.int .i64 1, .bool true, .string mr]] w fun e w' =>
      RcPost base b row st ⟨1, true, mr⟩ w e w' := by
  have h7 := hT.c7
  rw [hd] at h7
  have hbl : b < w.heap.size := by obtain ⟨_, _, _, _, hB, _⟩ := hT; exact blk_lt hB
  have hnb := nowF_size st.loose (st.s0, st.s1)
  have hns : st.now.1.size + st.now.2.size ≤ 1000000000000 := Nat.le_trans hnb hok.size
  clear hnb
  have HT := Lib.hid hT
  clear hT hd
  go_enter Try.func33, Try.ntmps33
  go_wp2_with fail
  have hA := (Below.refl w.heap.size w).alloc (Nat.le_refl _) (Obj.cells #[Value.int IntKind.i64 1, Value.bool true, Value.string mr] 68)
  refine (rnow_any base b row st _ (HT.out.below hA) hok.side hbare hok.size hok.many (Nat.le_trans hbs hA.size)).mono ?_
  rintro e w1 ⟨v1, rfl, ⟨g, c, cur, rfl, _, hB, g0, g1⟩, hb1⟩
  have hO1 := blk_below (blk_new w (Obj.cells #[Value.int IntKind.i64 1, Value.bool true, Value.string mr] 68)) hb1
  have hw1 := hA.trans (hb1.mono hA.size)
  have hT1 := HT.out.below hw1
  have c0 : w1.cell? ⟨g, 0, none⟩ = some (.string st.now.1) := (blk_cell hB 0).trans g0
  have c1 : w1.cell? ⟨g, 1, none⟩ = some (.string st.now.2) := (blk_cell hB 1).trans g1
  have o0 : w1.cell? ⟨w.heap.size, 0, none⟩ = some (.int .i64 1) := blk_cell hO1 0
  have o1 : w1.cell? ⟨w.heap.size, 1, none⟩ = some (.bool true) := blk_cell hO1 1
  have o2 : w1.cell? ⟨w.heap.size, 2, none⟩ = some (.string mr) := blk_cell hO1 2
  have r2 : w1.cell? ⟨b, 2, none⟩ = some (.int .i64 st.room) := by obtain ⟨_, _, _, _, h, _⟩ := hT1; exact blk_cell h 2
  have hgl := blk_lt hB
  have hbl1 : b < w1.heap.size := Nat.lt_of_lt_of_le hbl hw1.size
  have hol1 := blk_lt hO1
  have HO1 := Lib.hid hO1
  generalize st.now.1 = p at *
  generalize st.now.2 = q at *
  clear hB g0 g1 hA hb1 h7 hO1
  go_wp2_with fail
  refine region_lay (by kernel_rfl) (by kernel_rfl) ?_
  repeat (go_big_quiet_step (fail))
  refine wpQuiet_nil ?_
  rintro _ ⟨zq, rfl⟩
  have hb2 := w1.lay_below zq
  have hT2 := hT1.below hb2
  have hO2 := blk_below HO1.out hb2
  have hw2 := hw1.trans (hb2.mono hw1.size)
  generalize w1.lay zq = w2 at *
  have HO2 := Lib.hid hO2
  clear c0 c1 o0 o1 o2 r2 hO2 hT1 hw1 HO1
  go_wp2_with fail
  refine (rcount_any base b row st _ hok.calls0 hok.calls1 hT2).mono ?_
  rintro e w3 ⟨rfl, hT3, hF3⟩
  have hO3 := hF3.keep HO2.out (by omega) (by simp)
  have hF : Fr w w3 b row := (Fr.of_below hw2 _ _).trans' hF3.mono
  rw [show (!decide (st.crash = st.calls + 1)) = false from by rw [decide_eq_true hcr]; rfl]
  have HC := Lib.hid hcr
  clear hcr hO3
  go_wp2
  go_ret
  have hp : putF st ⟨1, true, mr⟩ = cntF st := by unfold putF cntF; rw [if_pos HC.out]
  exact ⟨by rw [show putC st = 16 from if_pos HC.out]; rfl, row, by rw [hp]; exact hT3, RowOk.refl _ _, hF⟩

set_option maxRecDepth 100000 in
set_option maxHeartbeats 1600000 in
theorem rchange_wipe1 (base b : Nat) (row : Option Nat) (st : TapeSt) (mr : ByteArray) (w : World) (hT : RefAt w base b row st) (hok : st.Ok) (hbare : Bare st.loose) (hbs : base ≤ w.heap.size) (hd : st.down = false)
    (hcs : mr.size ≤ 1000000000000) (hcr : ¬ st.crash = st.calls + 1) :
    Calls Try.prog 33 #[.pointer (some ⟨b, 0, none⟩), .agg #[.int .i64 1, .bool true, .string mr]] w fun e w' =>
      RcPost base b row st ⟨1, true, mr⟩ w e w' := by
  have h7 := hT.c7
  rw [hd] at h7
  have hbl : b < w.heap.size := by obtain ⟨_, _, _, _, hB, _⟩ := hT; exact blk_lt hB
  have hnb := nowF_size st.loose (st.s0, st.s1)
  have hns : st.now.1.size + st.now.2.size ≤ 1000000000000 := Nat.le_trans hnb hok.size
  clear hnb
  have HT := Lib.hid hT
  clear hT hd
  go_enter Try.func33, Try.ntmps33
  go_wp2_with fail
  have hA := (Below.refl w.heap.size w).alloc (Nat.le_refl _) (Obj.cells #[Value.int IntKind.i64 1, Value.bool true, Value.string mr] 68)
  refine (rnow_any base b row st _ (HT.out.below hA) hok.side hbare hok.size hok.many (Nat.le_trans hbs hA.size)).mono ?_
  rintro e w1 ⟨v1, rfl, ⟨g, c, cur, rfl, _, hB, g0, g1⟩, hb1⟩
  have hO1 := blk_below (blk_new w (Obj.cells #[Value.int IntKind.i64 1, Value.bool true, Value.string mr] 68)) hb1
  have hw1 := hA.trans (hb1.mono hA.size)
  have hT1 := HT.out.below hw1
  have c0 : w1.cell? ⟨g, 0, none⟩ = some (.string st.now.1) := (blk_cell hB 0).trans g0
  have c1 : w1.cell? ⟨g, 1, none⟩ = some (.string st.now.2) := (blk_cell hB 1).trans g1
  have o0 : w1.cell? ⟨w.heap.size, 0, none⟩ = some (.int .i64 1) := blk_cell hO1 0
  have o1 : w1.cell? ⟨w.heap.size, 1, none⟩ = some (.bool true) := blk_cell hO1 1
  have o2 : w1.cell? ⟨w.heap.size, 2, none⟩ = some (.string mr) := blk_cell hO1 2
  have r2 : w1.cell? ⟨b, 2, none⟩ = some (.int .i64 st.room) := by obtain ⟨_, _, _, _, h, _⟩ := hT1; exact blk_cell h 2
  have hgl := blk_lt hB
  have hbl1 : b < w1.heap.size := Nat.lt_of_lt_of_le hbl hw1.size
  have hol1 := blk_lt hO1
  have HO1 := Lib.hid hO1
  generalize st.now.1 = p at *
  generalize st.now.2 = q at *
  clear hB g0 g1 hA hb1 h7 hO1
  go_wp2_with fail
  refine region_lay (by kernel_rfl) (by kernel_rfl) ?_
  repeat (go_big_quiet_step (fail))
  refine wpQuiet_nil ?_
  rintro _ ⟨zq, rfl⟩
  have hb2 := w1.lay_below zq
  have hT2 := hT1.below hb2
  have hO2 := blk_below HO1.out hb2
  have hw2 := hw1.trans (hb2.mono hw1.size)
  generalize w1.lay zq = w2 at *
  have HO2 := Lib.hid hO2
  clear c0 c1 o0 o1 o2 r2 hO2 hT1 hw1 HO1
  go_wp2_with fail
  refine (rcount_any base b row st _ hok.calls0 hok.calls1 hT2).mono ?_
  rintro e w3 ⟨rfl, hT3, hF3⟩
  have hO3 := hF3.keep HO2.out (by omega) (by simp)
  have hF : Fr w w3 b row := (Fr.of_below hw2 _ _).trans' hF3.mono
  rw [show (!decide (st.crash = st.calls + 1)) = true from by rw [decide_eq_false hcr]; rfl]
  have HC := Lib.hid hcr
  clear hcr
  obtain ⟨sv, lv, hr3, hbb3, hB3, hP3, hW3⟩ := hT3
  have hn3 := hok.many
  have hhl : (cntF st).loose = st.loose := rfl
  rw [hhl] at hW3
  have d0 : w3.cell? ⟨w.heap.size, 0, none⟩ = some (.int .i64 1) := blk_cell hO3 0
  have d1 : w3.cell? ⟨w.heap.size, 1, none⟩ = some (.bool true) := blk_cell hO3 1
  have d2 : w3.cell? ⟨w.heap.size, 2, none⟩ = some (.string mr) := blk_cell hO3 2
  have k1 : w3.cell? ⟨b, 1, none⟩ = some lv := blk_cell hB3 1
  have g1 := blk_frozen hB3 1
  have hnb : lv.ownBlock ≠ some b := fun e => own_ne hW3 hB3 (by decide) e.symm
  have HROW := Lib.hid (fun k hk => own_lt hW3 k hk)
  have OWN := Lib.hid ((hW3.alloc (.cells #[.int .i64 1, .bool true, .string mr] 68)).drew)
  have NEWS := Lib.hid (news3 w3 (.int .i64 1) (.bool true) (.string mr) 68)
  have hb3 := blk_lt hB3
  have hz3 := blk_lt hO3
  have hbs3 : base ≤ w3.heap.size := by have := hF.size; omega
  have HB3 := Lib.hid hB3
  have HP3 := Lib.hid hP3
  have HR3 := Lib.hid hr3
  have HNB := Lib.hid hnb
  have HF := Lib.hid hF
  have hsz := hF.size
  obtain ⟨i0, hi, hz0, hz1, hz2⟩ := info_parts info68
  have Hi := Lib.hid hi
  have Hz0 := Lib.hid hz0
  have Hz1 := Lib.hid hz1
  have Hz2 := Lib.hid hz2
  clear hB3 hO3 hP3 hr3 hnb hF hi hz0 hz1 hz2 hW3 hF3 hhl HO2 hT2 hw2 hb2
  go_wp2_with fail
  go_region_law (refine step_append_lies _ rfl (.tmp 53) (.tmp 55) 50 rfl base 68 i0 (.agg #[.int .i64 0, .bool false, .string ⟨#[]⟩]) 3 32 Try.underlying50 Hi.out Hz0.out Hz1.out Hz2.out rfl (by decide) lv st.loose.length (cellsOf st.loose) rfl OWN.out ⟨w3.heap.size, 0, none⟩ 1 1 [.int .i64 1, .bool true, .string mr] rfl rfl NEWS.out (one3 _ _ _ rfl rfl rfl) (by omega) (by unfold maxLen; omega) (by omega) (by simp; omega) (w3.heap.size + 1) (by simp) ?_; intro g' cap w4 hown4 hgr4 hat hlt4; have hB4 := blk_grown (blk_drew (blk_alloc HB3.out _)) hgr4 (fun e => HNB.out e.symm); have q1 : w4.cell? ⟨b, 1, none⟩ = some lv := blk_cell hB4 1; have rr1 := blk_frozen hB4 1; have HB4 := Lib.hid hB4; clear hB4)
  all_goals
    go_wp2
    go_ret
    have hgb : g' ≠ b := by
      rcases hat with hat | hat
      · intro e; exact HNB.out (by rw [hat, e])
      · omega
    have hFF : Fr w w4 b row := (HF.out.alloc _).drew.trans (Fr.of_grown hgr4 b) (fun j hj => .inl (HR3.out.symm.trans hj))
    have hF4 : Fr w3 w4 b row := (((Fr.refl w3 b row).alloc (Obj.cells #[.int .i64 1, .bool true, .string mr] 68)).drew).trans (Fr.of_grown hgr4 b) (fun j hj => .inl (HR3.out.symm.trans hj))
    have hF5 := hF4.set 1 (.slice (some ⟨g', 0, none⟩) (st.loose.length + 1) cap)
    refine ⟨by rw [show putC st = 0 from if_neg HC.out]; rfl, some g', ⟨sv, .slice (some ⟨g', 0, none⟩) (st.loose.length + 1) cap, rfl, hbb3, ?_, ?_, ?_⟩, ?_, hFF.set _ _⟩
    · refine (blk_set HB4.out 1 _).trans ?_
      simp [refCells, cntF, putF]
    · have hrow : ∀ k, row = some k → ∃ cs' t', w3.heap[k]? = some (.cells cs' t' (0, 0)) ∧ t' ≠ 9 := by
        intro k hk
        have h1 : (w3.alloc (.cells #[.int .i64 1, .bool true, .string mr] 68)).drew.ownsRow base 68 3 lv st.loose.length (cellsOf st.loose) := OWN.out
        obtain ⟨cs', h2⟩ := own_typed h1 k (HR3.out.trans hk)
        have h3 : k < w3.heap.size ∨ k = w3.heap.size := by have := blk_lt h2; simp at this; omega
        rcases h3 with h3 | h3
        · refine ⟨cs', 68, ?_, by decide⟩
          rw [← h2]
          exact (Below.heap_alloc w3 _ k h3).symm
        · exfalso
          have := HROW.out k (HR3.out.trans hk)
          omega
      exact HP3.out.fr hF5 HB3.out (by decide) hrow
    · have h5 := own_setCell hown4 (p := ⟨b, 1, none⟩) (by simp only [Value.ownBlock, ne_eq, Option.some.injEq]; omega) (.slice (some ⟨g', 0, none⟩) (st.loose.length + 1) cap)
      have hl : (putF st ⟨1, true, mr⟩).loose = st.loose ++ [⟨1, true, mr⟩] := by unfold putF; simp [HC.out]
      rw [hl, cellsOf_snoc]
      simpa using h5
    · intro k hk
      rcases hat with hat | hat
      · left; rw [← HR3.out, hat]; exact hk
      · right
        have : g' = k := by simpa using hk
        omega

end Go.Proofs.Ytallocndghjoeaa
