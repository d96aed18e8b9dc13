/- Walks of package tape: an addition. -/
import Derived.Test.YtallocndghjoeaaTg
import Derived.Test.YtallocndghjoeaaL
namespace Go.Proofs.Ytallocndghjoeaa
open Go.RowKit Go.Proofs.YtallocndghjoeaaW.PrintWords

def catF (l : List ByteArray) : ByteArray := l.foldl (· ++ ·) ⟨#[]⟩
def sizes (l : List ByteArray) : Nat := l.foldr (fun s n => s.size + n) 0

theorem cat_go (l : List ByteArray) : ∀ s : ByteArray, (l.foldl (· ++ ·) s).size = s.size + sizes l := by
  induction l with
  | nil => intro s; simp [sizes]
  | cons x l ih => intro s; simp only [List.foldl_cons, ih, sizes, List.foldr_cons, ByteArray.size_append]; omega
theorem catF_size (l : List ByteArray) : (catF l).size = sizes l := by
  have h := cat_go l ⟨#[]⟩
  have h0 : (⟨#[]⟩ : ByteArray).size = 0 := rfl
  unfold catF
  omega
theorem sizes_take (l : List ByteArray) : ∀ k (h : k < l.length), sizes (l.take k) + l[k].size ≤ sizes l := by
  induction l with
  | nil => intro k h; simp at h
  | cons c l ih =>
    intro k h
    have e2 : sizes (c :: l) = c.size + sizes l := rfl
    cases k with
    | zero => simp [sizes]
    | succ k =>
      have := ih k (by simpa using h)
      have e3 : sizes ((c :: l).take (k + 1)) = c.size + sizes (l.take k) := rfl
      rw [e2, e3]
      simp only [List.getElem_cons_succ]; omega
theorem catF_snoc (l : List ByteArray) (k : Nat) (h : k < l.length) : catF (l.take (k + 1)) = catF (l.take k) ++ l[k] := by
  unfold catF
  rw [List.take_succ_eq_append_getElem h, List.foldl_append]; rfl

/-- A list of texts that is read: its cells. -/
def StrsAt (w : World) (v : Value) (l : List ByteArray) : Prop :=
  (l = [] ∧ ∃ A c, v = .slice A 0 c) ∨ ∃ lb lo c, v = .slice (some ⟨lb, lo, none⟩) l.length c ∧ lb < w.heap.size ∧ ∀ k (h : k < l.length), w.cell? ⟨lb, lo + k, none⟩ = some (.string l[k])

def addTot (st : TapeSt) (n : Int) (m : ByteArray) : Int := ((withF st.now.1 st.now.2 n false m).1.size : Int) + (withF st.now.1 st.now.2 n false m).2.size

def addF (st : TapeSt) (n : Int) (l : List ByteArray) : TapeSt × Int :=
  if gateF st.down n = 0 then
    if st.room < addTot st n (catF l) then (st, 15) else (putF st ⟨n, false, catF l⟩, putC st)
  else (st, gateF st.down n)

set_option maxHeartbeats 400000 in
theorem add_nil (n : Int) (v : Value) (w : World) : Calls Try.prog 9 #[.pointer none, .int .i64 n, v] w fun e w' => e = .returned (.int .i64 2) ∧ w = w' := by
  go_enter Try.func9, Try.ntmps9
  go_wp2_with fail
  refine (gate_nil n _).mono ?_
  rintro e w' ⟨rfl, rfl⟩
  go_wp2
  go_ret
  exact ⟨rfl, rfl⟩

set_option maxHeartbeats 400000 in
theorem add_bad (base b : Nat) (row : Option Nat) (st : TapeSt) (n : Int) (v : Value) (w : World) (hT : TapeAt w base b row st) (hg : gateF st.down n ≠ 0) :
    Calls Try.prog 9 #[.pointer (some ⟨b, 0, none⟩), .int .i64 n, v] w fun e w' => e = .returned (.int .i64 (gateF st.down n)) ∧ w = w' := by
  obtain ⟨gg, hgg⟩ : ∃ gg, gateF st.down n = gg := ⟨_, rfl⟩
  have hne : (gg != 0) = true := by rw [← hgg]; simpa using hg
  have HG := Lib.hid hgg
  clear hgg hg
  go_enter Try.func9, Try.ntmps9
  go_wp2_with fail
  refine (gate_any b n st.down _ hT.c8).mono ?_
  rintro e w' ⟨rfl, rfl⟩
  rw [HG.out]
  go_wp2
  go_ret
  exact ⟨by rw [HG.out]; rfl, rfl⟩

set_option maxHeartbeats 800000 in
theorem add_some (base b : Nat) (row : Option Nat) (st : TapeSt) (n : Int) (lb lo c : Nat) (l : List ByteArray) (w : World) (hT : TapeAt w base b row st) (hok : st.Ok) (hbs : base ≤ w.heap.size) (hn0 : 0 ≤ n) (hn1 : n < 2)
    (hd : st.down = false) (hlb : lb < w.heap.size) (hl0 : ∀ k (h : k < l.length), w.cell? ⟨lb, lo + k, none⟩ = some (.string l[k])) (hln : l.length ≤ 1000000000) (hsz : st.s0.size + st.s1.size + mores st.loose + sizes l ≤ 1000000000000) :
    Calls Try.prog 9 #[.pointer (some ⟨b, 0, none⟩), .int .i64 n, .slice (some ⟨lb, lo, none⟩) l.length c] w
      fun e w' => e = .returned (.int .i64 (addF st n l).2) ∧ ∃ row', TapeAt w' base b row' (addF st n l).1 ∧ RowOk w row row' ∧ Fr w w' b row := by
  have HL := Lib.hid hl0
  have HD := Lib.hid hd
  have HG : Hid (gateF false n = 0) := Lib.hid (by unfold gateF; rw [if_neg (by decide), if_neg (by omega)])
  clear hl0 hd
  have HT := Lib.hid hT
  have hb := blk_lt hT.choose_spec.2.2.1
  clear hT
  go_enter Try.func9, Try.ntmps9
  go_wp2_with fail
  refine (gate_any b n st.down _ HT.out.c8).mono ?_
  rintro e w' ⟨rfl, rfl⟩
  rw [HD.out, HG.out]
  go_wp2
  go_loopw [21, 10] (fun i _ wr => ∃ k : Nat, k ≤ l.length ∧ i = .int .i64 k ∧ Below w.heap.size w wr ∧ w.heap.size < wr.heap.size ∧
      wr.heap[w.heap.size]? = some (.cells #[.int .i64 n, .bool false, .string (catF (l.take k))] 61 (0, 0))) (fun i _ _ => l.length - (intOf i).toNat)
  case atStart => exact ⟨0, by omega, rfl, (Below.refl _ _).alloc (Nat.le_refl _) _, by simp, blk_new _ _⟩
  case round =>
    obtain ⟨k, hk, rfl, hbel, hz, hB⟩ := hrel
    have e0 : wr.cell? ⟨w.heap.size, 0, none⟩ = some (.int .i64 n) := blk_cell hB 0
    have e1 : wr.cell? ⟨w.heap.size, 1, none⟩ = some (.bool false) := blk_cell hB 1
    have e2 : wr.cell? ⟨w.heap.size, 2, none⟩ = some (.string (catF (l.take k))) := blk_cell hB 2
    have f2 := blk_frozen hB 2
    have HB := Lib.hid hB
    clear hB
    by_cases hlt : k < l.length
    · have d := (hbel.cell (p := ⟨lb, lo + k, none⟩) hlb).trans (HL.out k hlt)
      have s1 := sizes_take l k hlt
      have s2 := catF_size (l.take k)
      have HS := Lib.hid (catF_snoc l k hlt)
      have s3 : (catF (l.take k)).size + l[k].size ≤ 1000000000000 := by omega
      clear s1 s2
      generalize catF (l.take k) = p at *
      generalize l[k] = q at *
      go_wp2
      go_roundw
      case rel =>
        refine ⟨k + 1, by omega, by go_num, hbel.setCell (by simp) _, by simpa using hz, ?_⟩
        rw [HS.out]
        exact blk_set HB.out 2 (.string (p ++ q))
      case measure => simp [intOf]; omega
    · obtain ⟨m, hm⟩ : ∃ m, catF l = m := ⟨_, rfl⟩
      have hkl : k = l.length := by omega
      have hms : m.size = sizes l := by rw [← hm]; exact catF_size l
      rw [hkl, List.take_length, hm] at e2
      go_wp2
      have hTr := HT.out.below hbel
      have k3 : wr.cell? ⟨b, 3, none⟩ = some (.int .i64 st.room) := by obtain ⟨_, _, _, h, _⟩ := hTr; exact blk_cell h 3
      have hbr : b < wr.heap.size := Nat.lt_of_lt_of_le hb hbel.size
      have HM := Lib.hid hm
      have HK := Lib.hid hkl
      clear hm hkl
      have hns := nowF_size st.loose (st.s0, st.s1)
      have hns1 : st.now.1.size + st.now.2.size + m.size ≤ 1000000000000 := by rw [hms]; exact Nat.le_trans (Nat.add_le_add_right hns _) hsz
      have hws := withF_size st.now.1 st.now.2 n false m
      clear hns hms
      refine region_lay (by kernel_rfl) (by kernel_rfl) ?_
      repeat (go_big_quiet_step (first | (go_at_call 27; exact Calls.lay_of (now_any base b row st _ (hTr.below (wr.lay_below _)) hok.side hok.size hok.many)) | (go_at_call 28; exact Calls.lay_of (with_any _ _ n false m _ hn0 hn1 hns1)) | (go_at_call 29; exact Calls.lay_of (size_any _ _ _ (Nat.le_trans hws hns1)))))
      refine wpQuiet_nil ?_
      rintro _ ⟨zq, rfl⟩
      have hb3 := wr.lay_below zq
      generalize wr.lay zq = w3 at *
      have q0 := (hb3.cell (p := ⟨w.heap.size, 0, none⟩) hz).trans e0
      have q1 := (hb3.cell (p := ⟨w.heap.size, 1, none⟩) hz).trans e1
      have q2 := (hb3.cell (p := ⟨w.heap.size, 2, none⟩) hz).trans e2
      have hT3 := hTr.below hb3
      have hbw3 : Below w.heap.size w w3 := hbel.trans (hb3.mono hbel.size)
      have hbs3 : base ≤ w3.heap.size := by have := hbw3.size; omega
      clear e0 e1 e2 f2 HB hTr k3
      have hg : gateF st.down n = 0 := by rw [HD.out]; exact HG.out
      by_cases hroom : st.room < addTot st n m
      · have ha : addF st n l = (st, 15) := by unfold addF; rw [if_pos hg, HM.out, if_pos hroom]
        have HA := Lib.hid ha
        have hdc : decide (st.room < ↑(withF st.now.1 st.now.2 n false m).1.size + ↑(withF st.now.1 st.now.2 n false m).2.size) = true := by simpa [addTot] using hroom
        have hd2 : st.room < ↑(withF st.now.1 st.now.2 n false m).1.size + ↑(withF st.now.1 st.now.2 n false m).2.size := hroom
        clear ha hg
        go_wp2
        go_ret
        rw [HA.out]
        exact ⟨rfl, row, hT3, RowOk.refl _ _, Fr.of_below hbw3 _ _⟩
      · have ha : addF st n l = (putF st ⟨n, false, m⟩, putC st) := by unfold addF; rw [if_pos hg, HM.out, if_neg hroom]
        have HA := Lib.hid ha
        have hdc : decide (st.room < ↑(withF st.now.1 st.now.2 n false m).1.size + ↑(withF st.now.1 st.now.2 n false m).2.size) = false := by simpa [addTot] using hroom
        have hd2 : ¬ st.room < ↑(withF st.now.1 st.now.2 n false m).1.size + ↑(withF st.now.1 st.now.2 n false m).2.size := hroom
        clear ha hg
        go_wp2_with fail
        refine (put_any base b row st ⟨n, false, m⟩ _ hok.calls0 hok.calls1 hT3 hok.many hbs3).mono ?_
        rintro e w' ⟨rfl, row', hT', hrow, hF⟩
        go_wp2
        go_ret
        rw [HA.out]
        refine ⟨rfl, row', hT', ?_, (Fr.of_below hbw3 _ _).trans' hF⟩
        intro k hk
        rcases hrow k hk with h | h
        · exact .inl h
        · exact .inr (Nat.le_trans hbw3.size h)

set_option maxHeartbeats 800000 in
theorem add_none (base b : Nat) (row : Option Nat) (st : TapeSt) (n : Int) (A : Option Addr) (c : Nat) (w : World) (hT : TapeAt w base b row st) (hok : st.Ok) (hbs : base ≤ w.heap.size) (hn0 : 0 ≤ n) (hn1 : n < 2)
    (hd : st.down = false) :
    Calls Try.prog 9 #[.pointer (some ⟨b, 0, none⟩), .int .i64 n, .slice A 0 c] w
      fun e w' => e = .returned (.int .i64 (addF st n []).2) ∧ ∃ row', TapeAt w' base b row' (addF st n []).1 ∧ RowOk w row row' ∧ Fr w w' b row := by
  have HD := Lib.hid hd
  have HG : Hid (gateF false n = 0) := Lib.hid (by unfold gateF; rw [if_neg (by decide), if_neg (by omega)])
  clear hd
  have HT := Lib.hid hT
  have hb := blk_lt hT.choose_spec.2.2.1
  clear hT
  obtain ⟨m, hm⟩ : ∃ m, catF [] = m := ⟨_, rfl⟩
  have hm0 : m = ⟨#[]⟩ := hm.symm
  have hms : m.size = 0 := by rw [hm0]; rfl
  have HM := Lib.hid hm
  clear hm
  go_enter Try.func9, Try.ntmps9
  go_wp2_with fail
  refine (gate_any b n st.down _ HT.out.c8).mono ?_
  rintro e w' ⟨rfl, rfl⟩
  rw [HD.out, HG.out]
  go_wp2
  refine wp_loop_rounds 1 ?_
  rw [rounds_succ]
  go_wp2
  obtain ⟨wr, hwr⟩ : ∃ wr, w.alloc (Obj.cells #[Value.int IntKind.i64 n, Value.bool false, Value.string { data := #[] }] 61) = wr := ⟨_, rfl⟩
  have hbel : Below w.heap.size w wr := by rw [← hwr]; exact (Below.refl _ _).alloc (Nat.le_refl _) _
  have hz : w.heap.size < wr.heap.size := by rw [← hwr]; simp
  have hB : wr.heap[w.heap.size]? = some (Obj.cells #[Value.int IntKind.i64 n, Value.bool false, Value.string m] 61 (0, 0)) := by rw [← hwr, hm0]; exact blk_new _ _
  rw [hwr]
  clear hwr hm0
  have e0 : wr.cell? ⟨w.heap.size, 0, none⟩ = some (.int .i64 n) := blk_cell hB 0
  have e1 : wr.cell? ⟨w.heap.size, 1, none⟩ = some (.bool false) := blk_cell hB 1
  have e2 : wr.cell? ⟨w.heap.size, 2, none⟩ = some (.string m) := blk_cell hB 2
  clear hB
  have hTr := HT.out.below hbel
  have k3 : wr.cell? ⟨b, 3, none⟩ = some (.int .i64 st.room) := by obtain ⟨_, _, _, h, _⟩ := hTr; exact blk_cell h 3
  have hbr : b < wr.heap.size := Nat.lt_of_lt_of_le hb hbel.size
  have hns := nowF_size st.loose (st.s0, st.s1)
  have hns1 : st.now.1.size + st.now.2.size + m.size ≤ 1000000000000 := by rw [hms]; exact Nat.le_trans hns hok.size
  have hws := withF_size st.now.1 st.now.2 n false m
  clear hns hms
  refine region_lay (by kernel_rfl) (by kernel_rfl) ?_
  repeat (go_big_quiet_step (first | (go_at_call 27; exact Calls.lay_of (now_any base b row st _ (hTr.below (wr.lay_below _)) hok.side hok.size hok.many)) | (go_at_call 28; exact Calls.lay_of (with_any _ _ n false m _ hn0 hn1 hns1)) | (go_at_call 29; exact Calls.lay_of (size_any _ _ _ (Nat.le_trans hws hns1)))))
  refine wpQuiet_nil ?_
  rintro _ ⟨zq, rfl⟩
  have hb3 := wr.lay_below zq
  generalize wr.lay zq = w3 at *
  have q0 := (hb3.cell (p := ⟨w.heap.size, 0, none⟩) hz).trans e0
  have q1 := (hb3.cell (p := ⟨w.heap.size, 1, none⟩) hz).trans e1
  have q2 := (hb3.cell (p := ⟨w.heap.size, 2, none⟩) hz).trans e2
  have hT3 := hTr.below hb3
  have hbw3 : Below w.heap.size w w3 := hbel.trans (hb3.mono hbel.size)
  have hbs3 : base ≤ w3.heap.size := by have := hbw3.size; omega
  clear e0 e1 e2 hTr k3
  have hg : gateF st.down n = 0 := by rw [HD.out]; exact HG.out
  by_cases hroom : st.room < addTot st n m
  · have ha : addF st n [] = (st, 15) := by unfold addF; rw [if_pos hg, HM.out, if_pos hroom]
    have HA := Lib.hid ha
    have hdc : decide (st.room < ↑(withF st.now.1 st.now.2 n false m).1.size + ↑(withF st.now.1 st.now.2 n false m).2.size) = true := by simpa [addTot] using hroom
    have hd2 : st.room < ↑(withF st.now.1 st.now.2 n false m).1.size + ↑(withF st.now.1 st.now.2 n false m).2.size := hroom
    clear ha hg
    go_wp2
    go_ret
    rw [HA.out]
    exact ⟨rfl, row, hT3, RowOk.refl _ _, Fr.of_below hbw3 _ _⟩
  · have ha : addF st n [] = (putF st ⟨n, false, m⟩, putC st) := by unfold addF; rw [if_pos hg, HM.out, if_neg hroom]
    have HA := Lib.hid ha
    have hdc : decide (st.room < ↑(withF st.now.1 st.now.2 n false m).1.size + ↑(withF st.now.1 st.now.2 n false m).2.size) = false := by simpa [addTot] using hroom
    have hd2 : ¬ st.room < ↑(withF st.now.1 st.now.2 n false m).1.size + ↑(withF st.now.1 st.now.2 n false m).2.size := hroom
    clear ha hg
    go_wp2_with fail
    refine (put_any base b row st ⟨n, false, m⟩ _ hok.calls0 hok.calls1 hT3 hok.many hbs3).mono ?_
    rintro e w' ⟨rfl, row', hT', hrow, hF⟩
    go_wp2
    go_ret
    rw [HA.out]
    refine ⟨rfl, row', hT', ?_, (Fr.of_below hbw3 _ _).trans' hF⟩
    intro k hk
    rcases hrow k hk with h | h
    · exact .inl h
    · exact .inr (Nat.le_trans hbw3.size h)

theorem add_any (base b : Nat) (row : Option Nat) (st : TapeSt) (n : Int) (v : Value) (l : List ByteArray) (w : World) (hT : TapeAt w base b row st) (hok : st.Ok) (hbs : base ≤ w.heap.size)
    (hv : StrsAt w v l) (hln : l.length ≤ 1000000000) (hsz : st.s0.size + st.s1.size + mores st.loose + sizes l ≤ 1000000000000) :
    Calls Try.prog 9 #[.pointer (some ⟨b, 0, none⟩), .int .i64 n, v] w
      fun e w' => e = .returned (.int .i64 (addF st n l).2) ∧ ∃ row', TapeAt w' base b row' (addF st n l).1 ∧ RowOk w row row' ∧ Fr w w' b row := by
  by_cases hg : gateF st.down n = 0
  · have hd : st.down = false := by
      cases h : st.down with
      | false => rfl
      | true => rw [h] at hg; simp [gateF] at hg
    have hn : 0 ≤ n ∧ n < 2 := by
      rw [hd] at hg
      unfold gateF at hg
      rw [if_neg (by decide)] at hg
      split at hg <;> omega
    rcases hv with ⟨rfl, A, c, rfl⟩ | ⟨lb, lo, c, rfl, h1, h2⟩
    · exact add_none base b row st n A c w hT hok hbs hn.1 hn.2 hd
    · exact add_some base b row st n lb lo c l w hT hok hbs hn.1 hn.2 hd h1 h2 hln hsz
  · refine (add_bad base b row st n v w hT hg).mono ?_
    rintro e w' ⟨rfl, rfl⟩
    have ha : addF st n l = (st, gateF st.down n) := by unfold addF; rw [if_neg hg]
    rw [ha]
    exact ⟨rfl, row, hT, RowOk.refl _ _, Fr.refl _ _ _⟩

end Go.Proofs.Ytallocndghjoeaa
