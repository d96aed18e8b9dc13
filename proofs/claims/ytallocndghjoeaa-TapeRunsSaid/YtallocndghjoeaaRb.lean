/- Walks of the reference's tape: a call is counted; what is on it. -/
import Derived.Test.YtallocndghjoeaaRa
namespace Go.Proofs.Ytallocndghjoeaa
open Go.RowKit Go.Proofs.YtallocndghjoeaaW.PrintWords
set_option linter.unusedVariables false

def refCells (sv lv : Value) (st : TapeSt) : Array Value :=
  #[sv, lv, .int .i64 st.room, .int .i64 st.crash, .int .i64 st.keep, .int .i64 st.torn, .int .i64 st.calls, .bool st.down]

def RefAt (w : World) (base b : Nat) (row : Option Nat) (st : TapeSt) : Prop :=
  ∃ sv lv, lv.ownBlock = row ∧ base ≤ b ∧ w.heap[b]? = some (.cells (refCells sv lv st) 52 (0, 0)) ∧ PairAt w base sv st.s0 st.s1 ∧ w.ownsRow base 68 3 lv st.loose.length (cellsOf st.loose)

theorem RefAt.below {w w' : World} {base b : Nat} {row : Option Nat} {st : TapeSt} (hT : RefAt w base b row st) (h : Below w.heap.size w w') : RefAt w' base b row st := by
  obtain ⟨sv, lv, h1, h2, h3, h4, h5⟩ := hT
  exact ⟨sv, lv, h1, h2, blk_below h3 h, h4.below h, pw_own_below h5 h⟩

theorem PairAt.fr {w w' : World} {base b : Nat} {row : Option Nat} {v : Value} {x y : ByteArray} (h : PairAt w base v x y) (hF : Fr w w' b row) {cs : Array Value} {t : TypeId} (hb : w.heap[b]? = some (.cells cs t (0, 0))) (ht : t ≠ 9)
    (hr : ∀ k, row = some k → ∃ cs' t', w.heap[k]? = some (.cells cs' t' (0, 0)) ∧ t' ≠ 9) : PairAt w' base v x y := by
  obtain ⟨g, c, cur, h1, h2, h3, h4⟩ := h
  refine ⟨g, c, cur, h1, h2, hF.keep h3 (fun e => ?_) (fun e => ?_), h4⟩
  · subst e; rw [h3] at hb; injection hb with hb; injection hb with _ hb; exact ht hb.symm
  · obtain ⟨cs', t', h5, h6⟩ := hr g e.symm
    rw [h3] at h5; injection h5 with h5; injection h5 with _ h5; exact h6 h5.symm

theorem RefAt.set {w w' : World} {base b : Nat} {row : Option Nat} {st : TapeSt} (hT : RefAt w base b row st) (hF : Fr w w' b none) (st' : TapeSt) (h0 : st'.s0 = st.s0) (h1 : st'.s1 = st.s1) (hl : st'.loose = st.loose)
    (hB : ∀ sv lv, w.heap[b]? = some (.cells (refCells sv lv st) 52 (0, 0)) → w'.heap[b]? = some (.cells (refCells sv lv st') 52 (0, 0))) : RefAt w' base b row st' := by
  obtain ⟨sv, lv, hr, hb, hB0, hP, hO⟩ := hT
  refine ⟨sv, lv, hr, hb, hB sv lv hB0, ?_, ?_⟩
  · rw [h0, h1]; exact hP.fr hF hB0 (by decide) (fun k h => by cases h)
  · rw [hl]
    exact hF.own hO (fun e => own_ne hO hB0 (by decide) e.symm) (by
      cases h : lv.ownBlock with
      | none => exact .inl rfl
      | some k => exact .inr (by simp))

def cntF (st : TapeSt) : TapeSt := { st with calls := st.calls + 1, down := decide (st.crash = st.calls + 1) }

theorem rc_set (sv lv : Value) (st : TapeSt) : ((refCells sv lv st).setIfInBounds 6 (.int .i64 (st.calls + 1))).setIfInBounds 7 (.bool (decide (st.crash = st.calls + 1))) = refCells sv lv (cntF st) := by
  simp [refCells, cntF]

set_option maxHeartbeats 800000 in
theorem rcount_core (b : Nat) (sv lv : Value) (st : TapeSt) (w : World) (hc0 : 0 ≤ st.calls) (hc1 : st.calls ≤ 1000000000000) (hB : w.heap[b]? = some (.cells (refCells sv lv st) 52 (0, 0))) :
    Calls Try.prog 34 #[.pointer (some ⟨b, 0, none⟩)] w fun e w' => e = .returned (.bool (!decide (st.crash = st.calls + 1))) ∧ w'.heap[b]? = some (.cells (refCells sv lv (cntF st)) 52 (0, 0)) ∧ Fr w w' b none := by
  have e3 : w.cell? ⟨b, 3, none⟩ = some (.int .i64 st.crash) := blk_cell hB 3
  have e6 : w.cell? ⟨b, 6, none⟩ = some (.int .i64 st.calls) := blk_cell hB 6
  have e7 : w.cell? ⟨b, 7, none⟩ = some (.bool st.down) := blk_cell hB 7
  have f6 := blk_frozen hB 6
  have f7 := blk_frozen hB 7
  have hbl := blk_lt hB
  have hB1 := blk_set hB 6 (.int .i64 (st.calls + 1))
  have hF1 := (Fr.refl w b none).set 6 (.int .i64 (st.calls + 1))
  have HB1 := Lib.hid hB1
  have HF1 := Lib.hid hF1
  have HR := Lib.hid (rc_set sv lv st)
  clear hB hB1 hF1
  go_enter Try.func34, Try.ntmps34
  go_wp2_with fail
  have e3' : (w.setCell ⟨b, 6, none⟩ (.int .i64 (st.calls + 1))).cell? ⟨b, 3, none⟩ = some (.int .i64 st.crash) := blk_cell HB1.out 3
  have e6' : (w.setCell ⟨b, 6, none⟩ (.int .i64 (st.calls + 1))).cell? ⟨b, 6, none⟩ = some (.int .i64 (st.calls + 1)) := blk_cell HB1.out 6
  have e7' : (w.setCell ⟨b, 6, none⟩ (.int .i64 (st.calls + 1))).cell? ⟨b, 7, none⟩ = some (.bool st.down) := blk_cell HB1.out 7
  have f7' := blk_frozen HB1.out 7
  have hbl' : b < (w.setCell ⟨b, 6, none⟩ (.int .i64 (st.calls + 1))).heap.size := by simpa using hbl
  generalize w.setCell ⟨b, 6, none⟩ (.int .i64 (st.calls + 1)) = w1 at *
  clear e3 e6 e7 f6 f7
  by_cases h1 : st.crash = st.calls + 1
  · have hd : decide (st.crash = st.calls + 1) = true := by simpa using h1
    have hq : (1 : Int) ≤ st.crash := by omega
    have hq2 : ((st.calls + 1 : Int) == st.crash) = true := by rw [h1]; simp
    have HD := Lib.hid hd
    clear hd h1
    refine region_lay_tail 21 (by kernel_rfl) (by kernel_rfl) ?_
    simp only [List.take_succ_cons, List.take_zero, List.drop_succ_cons, List.drop_zero]
    repeat (go_big_quiet_step (fail))
    refine wpQuiet_nil ?_
    rintro _ ⟨zq, rfl⟩
    have hb2 := w1.lay_below zq
    have hB2 := blk_below HB1.out hb2
    have hF2 := HF1.out.trans' (Fr.of_below hb2 _ _)
    have e8 := (hb2.cell (p := ⟨b, 7, none⟩) hbl').trans e7'
    have f8 := (hb2.frozen (p := ⟨b, 7, none⟩) hbl').trans f7'
    generalize w1.lay zq = w2 at *
    have HB2 := Lib.hid hB2
    clear hB2
    go_wp2
    go_ret
    refine ⟨by rw [HD.out]; rfl, ?_, hF2.set _ _⟩
    rw [← HR.out, HD.out]
    exact blk_set HB2.out 7 (.bool true)
  · have hd : decide (st.crash = st.calls + 1) = false := by simpa using h1
    have HD := Lib.hid hd
    by_cases hq : (1 : Int) ≤ st.crash
    all_goals
      have hq2 : ((st.calls + 1 : Int) == st.crash) = false := by rw [beq_eq_false_iff_ne]; omega
      clear hd h1
      refine region_lay_tail 21 (by kernel_rfl) (by kernel_rfl) ?_
      simp only [List.take_succ_cons, List.take_zero, List.drop_succ_cons, List.drop_zero]
      repeat (go_big_quiet_step (fail))
      refine wpQuiet_nil ?_
      rintro _ ⟨zq, rfl⟩
      have hb2 := w1.lay_below zq
      have hB2 := blk_below HB1.out hb2
      have hF2 := HF1.out.trans' (Fr.of_below hb2 _ _)
      have e8 := (hb2.cell (p := ⟨b, 7, none⟩) hbl').trans e7'
      have f8 := (hb2.frozen (p := ⟨b, 7, none⟩) hbl').trans f7'
      generalize w1.lay zq = w2 at *
      have HB2 := Lib.hid hB2
      clear hB2
      go_wp2
      go_ret
      refine ⟨by rw [HD.out]; rfl, ?_, hF2.set _ _⟩
      rw [← HR.out, HD.out]
      exact blk_set HB2.out 7 (.bool false)

theorem rcount_any (base b : Nat) (row : Option Nat) (st : TapeSt) (w : World) (hc0 : 0 ≤ st.calls) (hc1 : st.calls ≤ 1000000000000) (hT : RefAt w base b row st) :
    Calls Try.prog 34 #[.pointer (some ⟨b, 0, none⟩)] w fun e w' => e = .returned (.bool (!decide (st.crash = st.calls + 1))) ∧ RefAt w' base b row (cntF st) ∧ Fr w w' b none := by
  obtain ⟨sv, lv, hr, hb, hB, hP, hO⟩ := hT
  refine (rcount_core b sv lv st w hc0 hc1 hB).mono ?_
  rintro e w' ⟨rfl, hB', hF⟩
  refine ⟨rfl, ⟨sv, lv, hr, hb, hB', hP.fr hF hB (by decide) (fun k h => by cases h), hF.own hO (fun e => own_ne hO hB (by decide) e.symm) (by
      cases h : lv.ownBlock with
      | none => exact .inl rfl
      | some k => exact .inr (by simp))⟩, hF⟩
end Go.Proofs.Ytallocndghjoeaa
