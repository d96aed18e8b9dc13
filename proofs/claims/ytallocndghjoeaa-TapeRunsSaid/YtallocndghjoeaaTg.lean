/- Walks of package tape: a wipe, a seal. -/
import Derived.Test.YtallocndghjoeaaTf
import Derived.Deep.Quiet
namespace Go.Proofs.Ytallocndghjoeaa
open Go.RowKit Go.Proofs.YtallocndghjoeaaW.PrintWords

theorem wpQuiet_do {P : Program} {ops : Array Oper} {C : World → Prop} {Q : Act → Prop} {o : Oper} {rest : List Oper} {a : Act} (v : Value) (hw : Region.wanted o (yielded ops a.tmps) = true)
    (h : ∀ w, C w → o.quietAt P a C w v) (hn : wpQuiet P ops C Q rest (a.put o.dst v)) : wpQuiet P ops C Q (o :: rest) a := by
  unfold wpQuiet
  rw [if_pos hw]
  exact ⟨v, h, hn⟩

theorem TapeAt.below {w w' : World} {base b : Nat} {row : Option Nat} {st : TapeSt} (hT : TapeAt w base b row st) (h : Below w.heap.size w w') : TapeAt w' base b row st := by
  obtain ⟨lv, h1, h2, h3, h4⟩ := hT
  exact ⟨lv, h1, h2, blk_below h3 h, pw_own_below h4 h⟩

theorem RowOk.refl (w : World) (row : Option Nat) : RowOk w row row := fun _ h => .inl h

theorem counted_st (base b : Nat) (row : Option Nat) (st : TapeSt) (w : World) (hc0 : 0 ≤ st.calls) (hc1 : st.calls ≤ 1000000000000) (hT : TapeAt w base b row st) :
    Calls Try.prog 31 #[.pointer (some ⟨b, 0, none⟩)] w fun e w' => e = .returned (.int .i64 (if st.crash = st.calls + 1 then 16 else 0)) ∧
      TapeAt w' base b row { st with calls := st.calls + 1, down := decide (st.crash = st.calls + 1) } ∧ Fr w w' b none := by
  obtain ⟨lv, hr, hb, hB, hO⟩ := hT
  refine (counted_any b st.s0 st.s1 lv st.room st.crash st.keep st.torn st.calls st.down w hc0 hc1 hB).mono ?_
  rintro e w1 ⟨rfl, hB1, hF⟩
  exact ⟨rfl, ⟨lv, hr, hb, hB1, hF.own hO (fun e => own_ne hO hB (by decide) e.symm) (by
      cases h : lv.ownBlock with
      | none => exact .inl rfl
      | some k => exact .inr (by simp))⟩, hF⟩

def wipeF (st : TapeSt) (n : Int) : TapeSt × Int :=
  if gateF st.down n = 0 then (putF st ⟨n, true, ⟨#[]⟩⟩, putC st) else (st, gateF st.down n)

set_option maxHeartbeats 400000 in
theorem wipe_nil (n : Int) (w : World) : Calls Try.prog 13 #[.pointer none, .int .i64 n] w fun e w' => e = .returned (.int .i64 2) ∧ w = w' := by
  go_enter Try.func13, Try.ntmps13
  go_wp2_with fail
  refine (gate_nil n _).mono ?_
  rintro e w' ⟨rfl, rfl⟩
  go_wp2
  go_ret
  exact ⟨rfl, rfl⟩

theorem TapeAt.c8 {w : World} {base b : Nat} {row : Option Nat} {st : TapeSt} (hT : TapeAt w base b row st) : w.cell? ⟨b, 8, none⟩ = some (.bool st.down) := by
  obtain ⟨lv, _, _, hB, _⟩ := hT; exact blk_cell hB 8

set_option maxHeartbeats 400000 in
theorem wipe_any (base b : Nat) (row : Option Nat) (st : TapeSt) (n : Int) (w : World) (hT : TapeAt w base b row st) (hok : st.Ok) (hbs : base ≤ w.heap.size) :
    Calls Try.prog 13 #[.pointer (some ⟨b, 0, none⟩), .int .i64 n] w
      fun e w' => e = .returned (.int .i64 (wipeF st n).2) ∧ ∃ row', TapeAt w' base b row' (wipeF st n).1 ∧ RowOk w row row' ∧ Fr w w' b row := by
  obtain ⟨gg, hgg⟩ : ∃ gg, gateF st.down n = gg := ⟨_, rfl⟩
  have HG := Lib.hid hgg
  clear hgg
  by_cases hz : gg = 0
  · subst hz
    go_enter Try.func13, Try.ntmps13
    go_wp2_with fail
    refine (gate_any b n st.down _ hT.c8).mono ?_
    rintro e w' ⟨rfl, rfl⟩
    rw [HG.out]
    go_wp2_with fail
    refine (put_any base b row st ⟨n, true, ⟨#[]⟩⟩ _ hok.calls0 hok.calls1 hT hok.many hbs).mono ?_
    rintro e w' ⟨rfl, row', hT', hrow, hF⟩
    go_wp2
    go_ret
    rw [show wipeF st n = (putF st ⟨n, true, ⟨#[]⟩⟩, putC st) from by simp [wipeF, HG.out]]
    exact ⟨rfl, row', hT', hrow, hF⟩
  · have hne : (gg != 0) = true := by simpa using hz
    have HZ := Lib.hid hz
    clear hz
    go_enter Try.func13, Try.ntmps13
    go_wp2_with fail
    refine (gate_any b n st.down _ hT.c8).mono ?_
    rintro e w' ⟨rfl, rfl⟩
    rw [HG.out]
    go_wp2
    go_ret
    have hg : ¬ gateF st.down n = 0 := by rw [HG.out]; exact HZ.out
    rw [show wipeF st n = (st, gateF st.down n) from by simp [wipeF, hg]]
    exact ⟨by rw [HG.out]; rfl, row, hT, RowOk.refl _ _, Fr.refl _ _ _⟩

def sealF (st : TapeSt) : TapeSt × Int :=
  if st.down then (st, 16) else if st.crash = st.calls + 1 then ({ st with calls := st.calls + 1, down := true }, 16)
  else ({ st with calls := st.calls + 1, down := false, s0 := st.now.1, s1 := st.now.2, loose := [] }, 0)

set_option maxHeartbeats 400000 in
theorem seal_nil (w : World) : Calls Try.prog 15 #[.pointer none] w fun e w' => e = .returned (.int .i64 2) ∧ w = w' := by
  go_enter Try.func15, Try.ntmps15
  go_wp2_with fail
  refine (gate_nil 0 _).mono ?_
  rintro e w' ⟨rfl, rfl⟩
  go_wp2
  go_ret
  exact ⟨rfl, rfl⟩

set_option maxHeartbeats 400000 in
theorem seal_any (base b : Nat) (row : Option Nat) (st : TapeSt) (w : World) (hT : TapeAt w base b row st) (hok : st.Ok) :
    Calls Try.prog 15 #[.pointer (some ⟨b, 0, none⟩)] w
      fun e w' => e = .returned (.int .i64 (sealF st).2) ∧ ∃ row', TapeAt w' base b row' (sealF st).1 ∧ RowOk w row row' ∧ Fr w w' b row := by
  obtain ⟨dn, hdn⟩ : ∃ dn, st.down = dn := ⟨_, rfl⟩
  have HD := Lib.hid hdn
  clear hdn
  cases dn with
  | true =>
    go_enter Try.func15, Try.ntmps15
    go_wp2_with fail
    refine (gate_any b 0 st.down _ hT.c8).mono ?_
    rintro e w' ⟨rfl, rfl⟩
    rw [HD.out, show gateF true 0 = 16 from rfl]
    go_wp2
    go_ret
    rw [show sealF st = (st, 16) from by simp [sealF, HD.out]]
    exact ⟨rfl, row, hT, RowOk.refl _ _, Fr.refl _ _ _⟩
  | false =>
    by_cases hcr : st.crash = st.calls + 1
    · have HC := Lib.hid hcr
      clear hcr
      go_enter Try.func15, Try.ntmps15
      go_wp2_with fail
      refine (gate_any b 0 st.down _ hT.c8).mono ?_
      rintro e w' ⟨rfl, rfl⟩
      rw [HD.out, show gateF false 0 = 0 from rfl]
      go_wp2_with fail
      refine (counted_st base b row st _ hok.calls0 hok.calls1 hT).mono ?_
      rintro e w1 ⟨rfl, hT1, hF⟩
      rw [if_pos HC.out]
      go_wp2
      go_ret
      rw [show sealF st = ({ st with calls := st.calls + 1, down := true }, 16) from by simp [sealF, HD.out, HC.out]]
      exact ⟨rfl, row, by simpa [HC.out] using hT1, RowOk.refl _ _, hF.mono⟩
    · have HC := Lib.hid hcr
      clear hcr
      go_enter Try.func15, Try.ntmps15
      go_wp2_with fail
      refine (gate_any b 0 st.down _ hT.c8).mono ?_
      rintro e w' ⟨rfl, rfl⟩
      rw [HD.out, show gateF false 0 = 0 from rfl]
      go_wp2_with fail
      refine (counted_st base b row st _ hok.calls0 hok.calls1 hT).mono ?_
      rintro e w1 ⟨rfl, hT1, hF⟩
      rw [if_neg HC.out]
      go_wp2_with fail
      refine (now_any base b row _ _ hT1 hok.side hok.size hok.many).mono ?_
      rintro e w2 ⟨rfl, hb2⟩
      have hT2 := hT1.below hb2
      obtain ⟨lv, hr, hbb, hB, hO⟩ := hT2
      have c0 : w2.cell? ⟨b, 0, none⟩ = some (.string st.s0) := blk_cell hB 0
      have c1 : w2.cell? ⟨b, 1, none⟩ = some (.string st.s1) := blk_cell hB 1
      have c2 : w2.cell? ⟨b, 2, none⟩ = some lv := blk_cell hB 2
      have f0 := blk_frozen hB 0
      have f1 := blk_frozen hB 1
      have f2 := blk_frozen hB 2
      have HB := Lib.hid hB
      clear hB
      go_wp2
      go_ret
      rw [show sealF st = ({ st with calls := st.calls + 1, down := false, s0 := st.now.1, s1 := st.now.2, loose := [] }, 0) from by simp [sealF, HD.out, HC.out]]
      refine ⟨rfl, none, ⟨.slice none 0 0, rfl, hbb, ?_, own_nil _ _ _ _⟩, (fun k h => by cases h), ?_⟩
      · refine (blk_set (blk_set (blk_set HB.out 0 _) 1 _) 2 _).trans ?_
        have hd : decide (st.crash = st.calls + 1) = false := by simp [HC.out]
        simp only [TapeSt.cells, tapeCells, hd]
        rfl
      · exact (((hF.trans' (Fr.of_below hb2 _ _)).mono.set _ _).set _ _).set _ _

end Go.Proofs.Ytallocndghjoeaa
