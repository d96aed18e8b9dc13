/- Walks of the reference's tape: an addition, a wipe, all made safe. -/
import Derived.Test.YtallocndghjoeaaRd
namespace Go.Proofs.Ytallocndghjoeaa
open Go.RowKit Go.Proofs.YtallocndghjoeaaW.PrintWords
set_option linter.unusedVariables false

theorem withF_tot (x y : ByteArray) (n : Int) (m : ByteArray) : (((withF x y n false m).1.size : Int) + (withF x y n false m).2.size) = (x.size : Int) + y.size + m.size := by
  unfold withF
  split <;> simp [ByteArray.size_append] <;> omega

/-- What a change comes to. -/
def RPost (base b : Nat) (row : Option Nat) (r : TapeSt × Int) (w : World) (e : Ending) (w' : World) : Prop :=
  e = .returned (.int .i64 r.2) ∧ ∃ row', RefAt w' base b row' r.1 ∧ RowOk w row row' ∧ Fr w w' b row

theorem rchange_add (base b : Nat) (row : Option Nat) (st : TapeSt) (n : Int) (l : List ByteArray) (m : ByteArray) (hm : catF l = m) (w : World) (hT : RefAt w base b row st) (hok : st.Ok) (hbare : Bare st.loose) (hbs : base ≤ w.heap.size) (hcs : m.size ≤ 1000000000000) :
    Calls Try.prog 33 #[.pointer (some ⟨b, 0, none⟩), .agg #[.int .i64 n, .bool false, .string m]] w (RPost base b row (addF st n l) w) := by
  have hbl : b < w.heap.size := by obtain ⟨_, _, _, _, hB, _⟩ := hT; exact blk_lt hB
  have h7 := hT.c7
  unfold addF
  rw [hm]
  by_cases hd : st.down = true
  · rw [if_neg (by rw [hd]; show ¬ (16 : Int) = 0; decide)]
    rw [hd] at h7
    refine (rchange_down b ⟨n, false, m⟩ w hbl h7).mono ?_
    rintro e w' ⟨he, hb⟩
    exact ⟨by rw [he, hd]; rfl, row, hT.below hb, RowOk.refl _ _, Fr.of_below hb _ _⟩
  · have hd' : st.down = false := by simpa using hd
    rw [hd'] at h7
    by_cases hn : n < 0 ∨ 2 ≤ n
    · have hg : gateF st.down n = 1 := by rw [hd']; unfold gateF; rw [if_neg (by decide), if_pos hn]
      rw [if_neg (by rw [hg]; decide)]
      refine (rchange_arg b ⟨n, false, m⟩ w hbl h7 hn).mono ?_
      rintro e w' ⟨he, hb⟩
      exact ⟨by rw [he, hg], row, hT.below hb, RowOk.refl _ _, Fr.of_below hb _ _⟩
    · have hg : gateF st.down n = 0 := by rw [hd']; unfold gateF; rw [if_neg (by decide), if_neg hn]
      rw [if_pos hg]
      have ht : addTot st n m = (st.now.1.size : Int) + st.now.2.size + m.size := withF_tot _ _ _ _
      rw [ht]
      by_cases hf : st.room < (st.now.1.size : Int) + st.now.2.size + m.size
      · rw [if_pos hf]
        rcases (by omega : n = 0 ∨ n = 1) with rfl | rfl
        · refine (rchange_full0 base b row st m w hT hok hbare hbs hd' hcs hf).mono ?_
          rintro e w' ⟨he, hr, hb⟩
          exact ⟨he, row, hr, RowOk.refl _ _, Fr.of_below hb _ _⟩
        · refine (rchange_full1 base b row st m w hT hok hbare hbs hd' hcs hf).mono ?_
          rintro e w' ⟨he, hr, hb⟩
          exact ⟨he, row, hr, RowOk.refl _ _, Fr.of_below hb _ _⟩
      · rw [if_neg hf]
        by_cases hcr : st.crash = st.calls + 1
        · rcases (by omega : n = 0 ∨ n = 1) with rfl | rfl
          · exact (rchange_add0c base b row st m w hT hok hbare hbs hd' hcs hf hcr).mono fun _ _ h => h
          · exact (rchange_add1c base b row st m w hT hok hbare hbs hd' hcs hf hcr).mono fun _ _ h => h
        · rcases (by omega : n = 0 ∨ n = 1) with rfl | rfl
          · exact (rchange_add0 base b row st m w hT hok hbare hbs hd' hcs hf hcr).mono fun _ _ h => h
          · exact (rchange_add1 base b row st m w hT hok hbare hbs hd' hcs hf hcr).mono fun _ _ h => h

theorem rchange_wipe (base b : Nat) (row : Option Nat) (st : TapeSt) (n : Int) (w : World) (hT : RefAt w base b row st) (hok : st.Ok) (hbare : Bare st.loose) (hbs : base ≤ w.heap.size) :
    Calls Try.prog 33 #[.pointer (some ⟨b, 0, none⟩), .agg #[.int .i64 n, .bool true, .string ⟨#[]⟩]] w (RPost base b row (wipeF st n) w) := by
  have hbl : b < w.heap.size := by obtain ⟨_, _, _, _, hB, _⟩ := hT; exact blk_lt hB
  have h7 := hT.c7
  unfold wipeF
  by_cases hd : st.down = true
  · rw [if_neg (by rw [hd]; show ¬ (16 : Int) = 0; decide)]
    rw [hd] at h7
    refine (rchange_down b ⟨n, true, ⟨#[]⟩⟩ w hbl h7).mono ?_
    rintro e w' ⟨he, hb⟩
    exact ⟨by rw [he, hd]; rfl, row, hT.below hb, RowOk.refl _ _, Fr.of_below hb _ _⟩
  · have hd' : st.down = false := by simpa using hd
    rw [hd'] at h7
    by_cases hn : n < 0 ∨ 2 ≤ n
    · have hg : gateF st.down n = 1 := by rw [hd']; unfold gateF; rw [if_neg (by decide), if_pos hn]
      rw [if_neg (by rw [hg]; decide)]
      refine (rchange_arg b ⟨n, true, ⟨#[]⟩⟩ w hbl h7 hn).mono ?_
      rintro e w' ⟨he, hb⟩
      exact ⟨by rw [he, hg], row, hT.below hb, RowOk.refl _ _, Fr.of_below hb _ _⟩
    · have hg : gateF st.down n = 0 := by rw [hd']; unfold gateF; rw [if_neg (by decide), if_neg hn]
      rw [if_pos hg]
      have hz : (⟨#[]⟩ : ByteArray).size ≤ 1000000000000 := by decide
      by_cases hcr : st.crash = st.calls + 1
      · rcases (by omega : n = 0 ∨ n = 1) with rfl | rfl
        · exact (rchange_wipe0c base b row st _ w hT hok hbare hbs hd' hz hcr).mono fun _ _ h => h
        · exact (rchange_wipe1c base b row st _ w hT hok hbare hbs hd' hz hcr).mono fun _ _ h => h
      · rcases (by omega : n = 0 ∨ n = 1) with rfl | rfl
        · exact (rchange_wipe0 base b row st _ w hT hok hbare hbs hd' hz hcr).mono fun _ _ h => h
        · exact (rchange_wipe1 base b row st _ w hT hok hbare hbs hd' hz hcr).mono fun _ _ h => h

set_option maxHeartbeats 800000 in
theorem rwipe_any (base b : Nat) (row : Option Nat) (st : TapeSt) (n : Int) (w : World) (hT : RefAt w base b row st) (hok : st.Ok) (hbare : Bare st.loose) (hbs : base ≤ w.heap.size) :
    Calls Try.prog 22 #[.pointer (some ⟨b, 0, none⟩), .int .i64 n] w (RPost base b row (wipeF st n) w) := by
  go_enter Try.func22, Try.ntmps22
  go_wp2_with fail
  refine (rchange_wipe base b row st n _ hT hok hbare hbs).mono ?_
  rintro e w' ⟨rfl, hp⟩
  have HP := Lib.hid hp
  clear hp
  generalize hr : (wipeF st n).2 = r at *
  have HR := Lib.hid hr
  clear hr
  go_wp2
  go_ret
  exact ⟨by rw [HR.out]; rfl, HP.out⟩

set_option maxHeartbeats 800000 in
theorem radd_some (base b : Nat) (row : Option Nat) (st : TapeSt) (n : Int) (lb lo c : Nat) (l : List ByteArray) (w : World) (hT : RefAt w base b row st) (hok : st.Ok) (hbare : Bare st.loose) (hbs : base ≤ w.heap.size)
    (hl0 : ∀ k (h : k < l.length), w.cell? ⟨lb, lo + k, none⟩ = some (.string l[k])) (hln : l.length ≤ 1000000000) (hsz : sizes l ≤ 1000000000000) :
    Calls Try.prog 21 #[.pointer (some ⟨b, 0, none⟩), .int .i64 n, .slice (some ⟨lb, lo, none⟩) l.length c] w (RPost base b row (addF st n l) w) := by
  have HL := Lib.hid hl0
  clear hl0
  go_enter Try.func21, Try.ntmps21
  go_wp2
  go_loop [7, 8] (fun sv i => ∃ k : Nat, k ≤ l.length ∧ i = .int .i64 k ∧ sv = .string (catF (l.take k))) (fun _ i => l.length - (intOf i).toNat)
  case atStart => exact ⟨0, by omega, rfl, rfl⟩
  case round =>
    obtain ⟨k, hk, rfl, rfl⟩ := hrel
    by_cases hlt : k < l.length
    · have d := HL.out k hlt
      have s1 := sizes_take l k hlt
      have s2 := catF_size (l.take k)
      have HS := Lib.hid (catF_snoc l k hlt)
      have s3 : (catF (l.take k)).size + l[k].size ≤ 1000000000000 := by omega
      clear s1 s2
      generalize catF (l.take k) = p at *
      generalize l[k] = q at *
      go_wp2
      go_round
      case rel => exact ⟨k + 1, by omega, by go_num, by rw [HS.out]⟩
      case measure => simp [intOf]; omega
    · have hkl : k = l.length := by omega
      subst hkl
      obtain ⟨m, hm⟩ : ∃ m, catF l = m := ⟨_, rfl⟩
      have hms : m.size = sizes l := by rw [← hm]; exact catF_size l
      rw [List.take_length, hm]
      have HM := Lib.hid hm
      clear hm
      go_wp2_with fail
      refine (rchange_add base b row st n l m HM.out _ hT hok hbare hbs (by omega)).mono ?_
      rintro e w' ⟨rfl, hp⟩
      have HP := Lib.hid hp
      clear hp
      generalize hr : (addF st n l).2 = r at *
      have HR := Lib.hid hr
      clear hr
      go_wp2
      go_ret
      exact ⟨by rw [HR.out]; rfl, HP.out⟩

set_option maxHeartbeats 800000 in
theorem radd_none (base b : Nat) (row : Option Nat) (st : TapeSt) (n : Int) (A : Option Addr) (c : Nat) (w : World) (hT : RefAt w base b row st) (hok : st.Ok) (hbare : Bare st.loose) (hbs : base ≤ w.heap.size) :
    Calls Try.prog 21 #[.pointer (some ⟨b, 0, none⟩), .int .i64 n, .slice A 0 c] w (RPost base b row (addF st n []) w) := by
  go_enter Try.func21, Try.ntmps21
  go_wp2
  refine wp_loop_rounds 1 ?_
  rw [rounds_succ]
  go_wp2_with fail
  refine (rchange_add base b row st n [] ⟨#[]⟩ rfl _ hT hok hbare hbs (by decide)).mono ?_
  rintro e w' ⟨rfl, hp⟩
  have HP := Lib.hid hp
  clear hp
  generalize hr : (addF st n []).2 = r at *
  have HR := Lib.hid hr
  clear hr
  go_wp2
  go_ret
  exact ⟨by rw [HR.out]; rfl, HP.out⟩

theorem radd_any (base b : Nat) (row : Option Nat) (st : TapeSt) (n : Int) (v : Value) (l : List ByteArray) (w : World) (hT : RefAt w base b row st) (hok : st.Ok) (hbare : Bare st.loose) (hbs : base ≤ w.heap.size)
    (hv : StrsAt w v l) (hln : l.length ≤ 1000000000) (hsz : sizes l ≤ 1000000000000) :
    Calls Try.prog 21 #[.pointer (some ⟨b, 0, none⟩), .int .i64 n, v] w (RPost base b row (addF st n l) w) := by
  rcases hv with ⟨rfl, A, c, rfl⟩ | ⟨lb, lo, c, rfl, h1, h2⟩
  · exact radd_none base b row st n A c w hT hok hbare hbs
  · exact radd_some base b row st n lb lo c l w hT hok hbare hbs h2 hln hsz

set_option maxHeartbeats 800000 in
theorem rseal_any (base b : Nat) (row : Option Nat) (st : TapeSt) (w : World) (hT : RefAt w base b row st) (hok : st.Ok) (hbare : Bare st.loose) (hbs : base ≤ w.heap.size) :
    Calls Try.prog 23 #[.pointer (some ⟨b, 0, none⟩)] w (RPost base b row (sealF st) w) := by
  obtain ⟨dn, hdn⟩ : ∃ dn, st.down = dn := ⟨_, rfl⟩
  have h7 := hT.c7
  rw [hdn] at h7
  have HD := Lib.hid hdn
  clear hdn
  cases dn with
  | true =>
    go_enter Try.func23, Try.ntmps23
    go_wp2_with fail
    go_ret
    rw [show sealF st = (st, 16) from by simp [sealF, HD.out]]
    exact ⟨rfl, row, hT, RowOk.refl _ _, Fr.refl _ _ _⟩
  | false =>
    by_cases hcr : st.crash = st.calls + 1
    · have HC := Lib.hid hcr
      go_enter Try.func23, Try.ntmps23
      go_wp2_with fail
      refine (rcount_any base b row st _ hok.calls0 hok.calls1 hT).mono ?_
      rintro e w1 ⟨rfl, hT1, hF⟩
      rw [show (!decide (st.crash = st.calls + 1)) = false from by rw [decide_eq_true hcr]; rfl]
      clear hcr h7
      go_wp2
      go_ret
      have hs : sealF st = (cntF st, 16) := by
        unfold sealF
        rw [if_neg (by rw [HD.out]; decide), if_pos HC.out]
        unfold cntF
        rw [decide_eq_true HC.out]
      rw [hs]
      exact ⟨rfl, row, hT1, RowOk.refl _ _, hF.mono⟩
    · have HC := Lib.hid hcr
      go_enter Try.func23, Try.ntmps23
      go_wp2_with fail
      refine (rcount_any base b row st _ hok.calls0 hok.calls1 hT).mono ?_
      rintro e w1 ⟨rfl, hT1, hF⟩
      rw [show (!decide (st.crash = st.calls + 1)) = true from by rw [decide_eq_false hcr]; rfl]
      clear hcr h7
      go_wp2_with fail
      refine (rnow_any base b row (cntF st) _ hT1 hok.side hbare hok.size hok.many (Nat.le_trans hbs hF.size)).mono ?_
      rintro e w2 ⟨v, rfl, hP2, hb2⟩
      have hP2' : PairAt w2 base v st.now.1 st.now.2 := hP2
      obtain ⟨sv, lv, hr, hbb, hB, _, hO⟩ := hT1.below hb2
      have c0 : w2.cell? ⟨b, 0, none⟩ = some sv := blk_cell hB 0
      have c1 : w2.cell? ⟨b, 1, none⟩ = some lv := blk_cell hB 1
      have f0 := blk_frozen hB 0
      have f1 := blk_frozen hB 1
      have HB := Lib.hid hB
      have HP := Lib.hid hP2'
      obtain ⟨vg, vc, vcur, hv, _⟩ := hP2
      rw [hv]
      rw [hv] at HP
      clear hB hP2' hv hO
      go_wp2
      go_ret
      have hs : sealF st = ({ st with calls := st.calls + 1, down := false, s0 := st.now.1, s1 := st.now.2, loose := [] }, 0) := by
        unfold sealF
        rw [if_neg (by rw [HD.out]; decide), if_neg HC.out]
      rw [hs]
      have hF2 := (((hF.trans' (Fr.of_below hb2 _ _)).mono (row := row)).set 0 (.slice (some ⟨vg, 0, none⟩) 2 vc)).set 1 (.slice none 0 0)
      refine ⟨rfl, none, ⟨.slice (some ⟨vg, 0, none⟩) 2 vc, .slice none 0 0, rfl, hbb, ?_, ?_, own_nil _ _ _ _⟩, (fun k h => by cases h), hF2⟩
      · refine (blk_set (blk_set HB.out 0 _) 1 _).trans ?_
        have hd : decide (st.crash = st.calls + 1) = false := by simp [HC.out]
        simp [refCells, cntF, hd]
      · exact HP.out.fr (((Fr.refl w2 b none).set 0 (.slice (some ⟨vg, 0, none⟩) 2 vc)).set 1 (.slice none 0 0)) HB.out (by decide) (fun k h => by cases h)
end Go.Proofs.Ytallocndghjoeaa
