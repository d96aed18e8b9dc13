/- Walks of package tape: a fall that tears nothing. -/
import Derived.Test.YtallocndghjoeaaTi
namespace Go.Proofs.Ytallocndghjoeaa
open Go.RowKit Go.Proofs.YtallocndghjoeaaW.PrintWords

theorem mores_take_le (l : List Chg) : ∀ k, mores (l.take k) ≤ mores l := by
  induction l with
  | nil => intro k; simp [mores]
  | cons c l ih =>
    intro k
    have e : ∀ m : List Chg, mores (c :: m) = c.more.size + mores m := fun _ => rfl
    cases k with
    | zero => simp [mores]
    | succ k => rw [List.take_succ_cons, e, e]; have := ih k; omega

set_option maxHeartbeats 1600000 in
theorem fall_wipe (base b : Nat) (st : TapeSt) (room crash keep torn : Int) (w : World) (g cap k n : Nat) (hk : k < n) (hc : n ≤ cap) (h1 : w.cell? ⟨g, k * 3 + 1, none⟩ = some (.bool true)) (hg : g < w.heap.size)
    (hB : w.heap[b]? = some (.cells (st.cells (.slice (some ⟨g, 0, none⟩) n cap)) 59 (0, 0))) (hO : w.ownsRow base 61 3 (.slice (some ⟨g, 0, none⟩) n cap) n (cellsOf st.loose)) (hok : st.Ok) (hbase : base ≤ b)
    (hp : partF keep (n : Nat) = (k : Nat)) (htn : tornL st.loose k torn = st.loose.take k) (hnl : n = st.loose.length) :
    Calls Try.prog 19 #[.pointer (some ⟨b, 0, none⟩), .agg #[.int .i64 room, .int .i64 crash, .int .i64 keep, .int .i64 torn]] w
      fun e w' => e = .returned (.tuple #[]) ∧ ∃ row', TapeAt w' base b row' (fallF st room crash keep torn) ∧ RowOk w (some g) row' ∧ Fr w w' b (some g) := by
  have k2 : w.cell? ⟨b, 2, none⟩ = some (.slice (some ⟨g, 0, none⟩) n cap) := blk_cell hB 2
  have f2 := blk_frozen hB 2
  have hb := blk_lt hB
  have hgb : g ≠ b := fun e => own_ne hO hB (by decide) (by rw [e]; rfl)
  have hbg : b ≠ g := fun e => hgb e.symm
  have HTN := Lib.hid htn
  have HNL := Lib.hid hnl
  have HP := Lib.hid hp
  have HO := Lib.hid hO
  have HB := Lib.hid hB
  have hmany := hok.many
  have hn1 : n ≤ 1000000000 := by omega
  clear hp hO hB hnl htn
  go_enter Try.func19, Try.ntmps19
  go_wp2_with fail
  refine region_lay (by kernel_rfl) (by kernel_rfl) ?_
  repeat (go_big_quiet_step (first | (go_at_call 32; exact Calls.lay_same (part_at keep n k HP.out (by omega) (by omega) _))))
  refine wpQuiet_nil ?_
  rintro _ ⟨zq, rfl⟩
  have hx1 := (((Below.refl w.heap.size w).alloc (Nat.le_refl _) (Obj.cells #[Value.int IntKind.i64 room, Value.int IntKind.i64 crash, Value.int IntKind.i64 keep, Value.int IntKind.i64 torn] 25))).trans ((World.lay_below _ zq).mono (by simp))
  have hpl := blk_below (blk_new w (Obj.cells #[Value.int IntKind.i64 room, Value.int IntKind.i64 crash, Value.int IntKind.i64 keep, Value.int IntKind.i64 torn] 25)) (World.lay_below _ zq)
  generalize (w.alloc (Obj.cells #[Value.int IntKind.i64 room, Value.int IntKind.i64 crash, Value.int IntKind.i64 keep, Value.int IntKind.i64 torn] 25)).lay zq = w1 at *
  have k2' := (hx1.cell (p := ⟨b, 2, none⟩) hb).trans k2
  have f2' := (hx1.frozen (p := ⟨b, 2, none⟩) hb).trans f2
  have h1' := (hx1.cell (p := ⟨g, k * 3 + 1, none⟩) hg).trans h1
  clear h1
  have HPL := Lib.hid hpl
  have hz1 := blk_lt hpl
  clear hpl k2 f2
  go_wp2_with fail
  have hB1 := blk_below HB.out hx1
  have hO1 := pw_own_below HO.out hx1
  have hT7 : TapeAt (w1.setCell ⟨b, 2, none⟩ (.slice (some ⟨g, 0, none⟩) k cap)) base b (some g) { st with loose := st.loose.take k } := by
    refine ⟨_, rfl, hbase, blk_set hB1 2 _, ?_⟩
    have := own_setCell (own_shrink hO1 (k := k) (Nat.le_of_lt hk)) (p := ⟨b, 2, none⟩) (by simp only [Value.ownBlock, ne_eq, Option.some.injEq]; omega) (.slice (some ⟨g, 0, none⟩) k cap)
    have hlen : (st.loose.take k).length = k := by have := HNL.out; simp; omega
    show World.ownsRow _ base 61 3 _ (st.loose.take k).length (cellsOf (st.loose.take k))
    rw [hlen, cellsOf_take]
    exact this
  have hP7 := blk_far HPL.out (p := ⟨b, 2, none⟩) (by simp; omega) (.slice (some ⟨g, 0, none⟩) k cap)
  have hF7 : Fr w (w1.setCell ⟨b, 2, none⟩ (.slice (some ⟨g, 0, none⟩) k cap)) b (some g) := (Fr.of_below hx1 _ _).set 2 _
  generalize (w1.setCell ⟨b, 2, none⟩ (.slice (some ⟨g, 0, none⟩) k cap)) = w7 at *
  have l0 : w7.cell? ⟨w.heap.size, 0, none⟩ = some (.int .i64 room) := blk_cell hP7 0
  have l1 : w7.cell? ⟨w.heap.size, 1, none⟩ = some (.int .i64 crash) := blk_cell hP7 1
  have l2 : w7.cell? ⟨w.heap.size, 2, none⟩ = some (.int .i64 keep) := blk_cell hP7 2
  have l3 : w7.cell? ⟨w.heap.size, 3, none⟩ = some (.int .i64 torn) := blk_cell hP7 3
  have hz7 := blk_lt hP7
  have HF7 := Lib.hid hF7
  clear hP7 hF7 hB1 hO1 k2' f2'
  have hs7 : ∀ c ∈ st.loose.take k, 0 ≤ c.side ∧ c.side < 2 := fun c hc => hok.side c (List.mem_of_mem_take hc)
  have hm7 : st.s0.size + st.s1.size + mores (st.loose.take k) ≤ 1000000000000 := by
    have e3 := mores_take_le st.loose k
    have e4 := hok.size
    omega
  have HN7 := Lib.hid (fun w' hb => now_any base b (some g) { st with loose := st.loose.take k } w' (hT7.below (w' := w') hb) hs7 hm7 (by rw [List.length_take]; omega))
  refine region_lay_tail 6 (by kernel_rfl) (by kernel_rfl) ?_
  simp only [List.take_succ_cons, List.take_zero, List.drop_succ_cons, List.drop_zero]
  repeat (go_big_quiet_step (first | (go_at_call 27; exact Calls.lay_of (HN7.out _ (w7.lay_below _)))))
  refine wpQuiet_nil ?_
  rintro _ ⟨zq9, rfl⟩
  have hb8 := w7.lay_below zq9
  have hT8 := hT7.below hb8
  have hF8 : Fr w (w7.lay zq9) b (some g) := HF7.out.trans' (Fr.of_below hb8 _ _)
  generalize w7.lay zq9 = w8 at *
  obtain ⟨lv8, hr8, _, hB8, hO8⟩ := hT8
  have m0 : w8.cell? ⟨b, 0, none⟩ = some (.string st.s0) := blk_cell hB8 0
  have m1 : w8.cell? ⟨b, 1, none⟩ = some (.string st.s1) := blk_cell hB8 1
  have m2 : w8.cell? ⟨b, 2, none⟩ = some lv8 := blk_cell hB8 2
  have m3 : w8.cell? ⟨b, 3, none⟩ = some (.int .i64 st.room) := blk_cell hB8 3
  have m4 : w8.cell? ⟨b, 4, none⟩ = some (.int .i64 st.crash) := blk_cell hB8 4
  have m5 : w8.cell? ⟨b, 5, none⟩ = some (.int .i64 st.keep) := blk_cell hB8 5
  have m6 : w8.cell? ⟨b, 6, none⟩ = some (.int .i64 st.torn) := blk_cell hB8 6
  have m7 : w8.cell? ⟨b, 7, none⟩ = some (.int .i64 st.calls) := blk_cell hB8 7
  have m8 : w8.cell? ⟨b, 8, none⟩ = some (.bool st.down) := blk_cell hB8 8
  have z0 := blk_frozen hB8 0
  have z1 := blk_frozen hB8 1
  have z2 := blk_frozen hB8 2
  have z3 := blk_frozen hB8 3
  have z4 := blk_frozen hB8 4
  have z5 := blk_frozen hB8 5
  have z6 := blk_frozen hB8 6
  have z7 := blk_frozen hB8 7
  have z8 := blk_frozen hB8 8
  have HB8 := Lib.hid hB8
  have HF8 := Lib.hid hF8
  clear hB8 hO8 hF8 hr8 hT7
  go_wp2
  go_end0
  have hfall : fallF st room crash keep torn = { s0 := (nowF (st.s0, st.s1) (st.loose.take k)).1, s1 := (nowF (st.s0, st.s1) (st.loose.take k)).2, loose := [], room := room, crash := crash, keep := keep, torn := torn, calls := 0, down := false } := by
    unfold fallF
    have e1 : (partF keep st.loose.length).toNat = k := by rw [← HNL.out, HP.out]; rfl
    rw [e1, HTN.out]
  rw [hfall]
  refine ⟨rfl, none, ⟨.slice none 0 0, rfl, hbase, set9_heap HB8.out _ _ _ _ _ _ _ _ _, own_nil _ _ _ _⟩, (fun _ h => by cases h), ?_⟩
  exact ((((((((HF8.out.set _ _).set _ _).set _ _).set _ _).set _ _).set _ _).set _ _).set _ _).set _ _

set_option maxHeartbeats 1600000 in
theorem fall_end (base b : Nat) (st : TapeSt) (room crash keep torn : Int) (w : World) (g cap n : Nat) (hc : n < cap) (hcap : cap ≤ 9223372036854775807)
    (hB : w.heap[b]? = some (.cells (st.cells (.slice (some ⟨g, 0, none⟩) n cap)) 59 (0, 0))) (hO : w.ownsRow base 61 3 (.slice (some ⟨g, 0, none⟩) n cap) n (cellsOf st.loose)) (hok : st.Ok) (hbase : base ≤ b)
    (hp : partF keep (n : Nat) = (n : Nat)) (htn : tornL st.loose n torn = st.loose.take n) (hnl : n = st.loose.length) :
    Calls Try.prog 19 #[.pointer (some ⟨b, 0, none⟩), .agg #[.int .i64 room, .int .i64 crash, .int .i64 keep, .int .i64 torn]] w
      fun e w' => e = .returned (.tuple #[]) ∧ ∃ row', TapeAt w' base b row' (fallF st room crash keep torn) ∧ RowOk w (some g) row' ∧ Fr w w' b (some g) := by
  have k2 : w.cell? ⟨b, 2, none⟩ = some (.slice (some ⟨g, 0, none⟩) n cap) := blk_cell hB 2
  have f2 := blk_frozen hB 2
  have hb := blk_lt hB
  have hgb : g ≠ b := fun e => own_ne hO hB (by decide) (by rw [e]; rfl)
  have hbg : b ≠ g := fun e => hgb e.symm
  have HTN := Lib.hid htn
  have HNL := Lib.hid hnl
  have HP := Lib.hid hp
  have HO := Lib.hid hO
  have HB := Lib.hid hB
  have hmany := hok.many
  have hn1 : n ≤ 1000000000 := by omega
  clear hp hO hB hnl htn
  go_enter Try.func19, Try.ntmps19
  go_wp2_with fail
  refine region_lay (by kernel_rfl) (by kernel_rfl) ?_
  repeat (go_big_quiet_step (first | (go_at_call 32; exact Calls.lay_same (part_at keep n n HP.out (by omega) (by omega) _))))
  refine wpQuiet_nil ?_
  rintro _ ⟨zq, rfl⟩
  have hx1 := (((Below.refl w.heap.size w).alloc (Nat.le_refl _) (Obj.cells #[Value.int IntKind.i64 room, Value.int IntKind.i64 crash, Value.int IntKind.i64 keep, Value.int IntKind.i64 torn] 25))).trans ((World.lay_below _ zq).mono (by simp))
  have hpl := blk_below (blk_new w (Obj.cells #[Value.int IntKind.i64 room, Value.int IntKind.i64 crash, Value.int IntKind.i64 keep, Value.int IntKind.i64 torn] 25)) (World.lay_below _ zq)
  generalize (w.alloc (Obj.cells #[Value.int IntKind.i64 room, Value.int IntKind.i64 crash, Value.int IntKind.i64 keep, Value.int IntKind.i64 torn] 25)).lay zq = w1 at *
  have k2' := (hx1.cell (p := ⟨b, 2, none⟩) hb).trans k2
  have f2' := (hx1.frozen (p := ⟨b, 2, none⟩) hb).trans f2
  have HPL := Lib.hid hpl
  have hz1 := blk_lt hpl
  clear hpl k2 f2
  go_wp2_with fail
  have hB1 := blk_below HB.out hx1
  have hO1 := pw_own_below HO.out hx1
  have hT7 : TapeAt (w1.setCell ⟨b, 2, none⟩ (.slice (some ⟨g, 0, none⟩) n cap)) base b (some g) { st with loose := st.loose.take n } := by
    refine ⟨_, rfl, hbase, blk_set hB1 2 _, ?_⟩
    have := own_setCell (own_shrink hO1 (k := n) (Nat.le_refl _)) (p := ⟨b, 2, none⟩) (by simp only [Value.ownBlock, ne_eq, Option.some.injEq]; omega) (.slice (some ⟨g, 0, none⟩) n cap)
    have hlen : (st.loose.take n).length = n := by have := HNL.out; simp; omega
    show World.ownsRow _ base 61 3 _ (st.loose.take n).length (cellsOf (st.loose.take n))
    rw [hlen, cellsOf_take]
    exact this
  have hP7 := blk_far HPL.out (p := ⟨b, 2, none⟩) (by simp; omega) (.slice (some ⟨g, 0, none⟩) n cap)
  have hF7 : Fr w (w1.setCell ⟨b, 2, none⟩ (.slice (some ⟨g, 0, none⟩) n cap)) b (some g) := (Fr.of_below hx1 _ _).set 2 _
  generalize (w1.setCell ⟨b, 2, none⟩ (.slice (some ⟨g, 0, none⟩) n cap)) = w7 at *
  have l0 : w7.cell? ⟨w.heap.size, 0, none⟩ = some (.int .i64 room) := blk_cell hP7 0
  have l1 : w7.cell? ⟨w.heap.size, 1, none⟩ = some (.int .i64 crash) := blk_cell hP7 1
  have l2 : w7.cell? ⟨w.heap.size, 2, none⟩ = some (.int .i64 keep) := blk_cell hP7 2
  have l3 : w7.cell? ⟨w.heap.size, 3, none⟩ = some (.int .i64 torn) := blk_cell hP7 3
  have hz7 := blk_lt hP7
  have HF7 := Lib.hid hF7
  clear hP7 hF7 hB1 hO1 k2' f2'
  have hs7 : ∀ c ∈ st.loose.take n, 0 ≤ c.side ∧ c.side < 2 := fun c hc => hok.side c (List.mem_of_mem_take hc)
  have hm7 : st.s0.size + st.s1.size + mores (st.loose.take n) ≤ 1000000000000 := by
    have e3 := mores_take_le st.loose n
    have e4 := hok.size
    omega
  have HN7 := Lib.hid (fun w' hb => now_any base b (some g) { st with loose := st.loose.take n } w' (hT7.below (w' := w') hb) hs7 hm7 (by rw [List.length_take]; omega))
  refine region_lay_tail 6 (by kernel_rfl) (by kernel_rfl) ?_
  simp only [List.take_succ_cons, List.take_zero, List.drop_succ_cons, List.drop_zero]
  repeat (go_big_quiet_step (first | (go_at_call 27; exact Calls.lay_of (HN7.out _ (w7.lay_below _)))))
  refine wpQuiet_nil ?_
  rintro _ ⟨zq9, rfl⟩
  have hb8 := w7.lay_below zq9
  have hT8 := hT7.below hb8
  have hF8 : Fr w (w7.lay zq9) b (some g) := HF7.out.trans' (Fr.of_below hb8 _ _)
  generalize w7.lay zq9 = w8 at *
  obtain ⟨lv8, hr8, _, hB8, hO8⟩ := hT8
  have m0 : w8.cell? ⟨b, 0, none⟩ = some (.string st.s0) := blk_cell hB8 0
  have m1 : w8.cell? ⟨b, 1, none⟩ = some (.string st.s1) := blk_cell hB8 1
  have m2 : w8.cell? ⟨b, 2, none⟩ = some lv8 := blk_cell hB8 2
  have m3 : w8.cell? ⟨b, 3, none⟩ = some (.int .i64 st.room) := blk_cell hB8 3
  have m4 : w8.cell? ⟨b, 4, none⟩ = some (.int .i64 st.crash) := blk_cell hB8 4
  have m5 : w8.cell? ⟨b, 5, none⟩ = some (.int .i64 st.keep) := blk_cell hB8 5
  have m6 : w8.cell? ⟨b, 6, none⟩ = some (.int .i64 st.torn) := blk_cell hB8 6
  have m7 : w8.cell? ⟨b, 7, none⟩ = some (.int .i64 st.calls) := blk_cell hB8 7
  have m8 : w8.cell? ⟨b, 8, none⟩ = some (.bool st.down) := blk_cell hB8 8
  have z0 := blk_frozen hB8 0
  have z1 := blk_frozen hB8 1
  have z2 := blk_frozen hB8 2
  have z3 := blk_frozen hB8 3
  have z4 := blk_frozen hB8 4
  have z5 := blk_frozen hB8 5
  have z6 := blk_frozen hB8 6
  have z7 := blk_frozen hB8 7
  have z8 := blk_frozen hB8 8
  have HB8 := Lib.hid hB8
  have HF8 := Lib.hid hF8
  clear hB8 hO8 hF8 hr8 hT7
  go_wp2
  go_end0
  have hfall : fallF st room crash keep torn = { s0 := (nowF (st.s0, st.s1) (st.loose.take n)).1, s1 := (nowF (st.s0, st.s1) (st.loose.take n)).2, loose := [], room := room, crash := crash, keep := keep, torn := torn, calls := 0, down := false } := by
    unfold fallF
    have e1 : (partF keep st.loose.length).toNat = n := by rw [← HNL.out, HP.out]; rfl
    rw [e1, HTN.out]
  rw [hfall]
  refine ⟨rfl, none, ⟨.slice none 0 0, rfl, hbase, set9_heap HB8.out _ _ _ _ _ _ _ _ _, own_nil _ _ _ _⟩, (fun _ h => by cases h), ?_⟩
  exact ((((((((HF8.out.set _ _).set _ _).set _ _).set _ _).set _ _).set _ _).set _ _).set _ _).set _ _

set_option maxHeartbeats 1600000 in
theorem fall_full (base b : Nat) (st : TapeSt) (room crash keep torn : Int) (w : World) (g n : Nat) (hcap : n ≤ 9223372036854775807)
    (hB : w.heap[b]? = some (.cells (st.cells (.slice (some ⟨g, 0, none⟩) n n)) 59 (0, 0))) (hO : w.ownsRow base 61 3 (.slice (some ⟨g, 0, none⟩) n n) n (cellsOf st.loose)) (hok : st.Ok) (hbase : base ≤ b)
    (hp : partF keep (n : Nat) = (n : Nat)) (htn : tornL st.loose n torn = st.loose.take n) (hnl : n = st.loose.length) :
    Calls Try.prog 19 #[.pointer (some ⟨b, 0, none⟩), .agg #[.int .i64 room, .int .i64 crash, .int .i64 keep, .int .i64 torn]] w
      fun e w' => e = .returned (.tuple #[]) ∧ ∃ row', TapeAt w' base b row' (fallF st room crash keep torn) ∧ RowOk w (some g) row' ∧ Fr w w' b (some g) := by
  have k2 : w.cell? ⟨b, 2, none⟩ = some (.slice (some ⟨g, 0, none⟩) n n) := blk_cell hB 2
  have f2 := blk_frozen hB 2
  have hb := blk_lt hB
  have hgb : g ≠ b := fun e => own_ne hO hB (by decide) (by rw [e]; rfl)
  have hbg : b ≠ g := fun e => hgb e.symm
  have HTN := Lib.hid htn
  have HNL := Lib.hid hnl
  have HP := Lib.hid hp
  have HO := Lib.hid hO
  have HB := Lib.hid hB
  have hmany := hok.many
  have hn1 : n ≤ 1000000000 := by omega
  clear hp hO hB hnl htn
  go_enter Try.func19, Try.ntmps19
  go_wp2_with fail
  refine region_lay (by kernel_rfl) (by kernel_rfl) ?_
  repeat (go_big_quiet_step (first | (go_at_call 32; exact Calls.lay_same (part_at keep n n HP.out (by omega) (by omega) _))))
  refine wpQuiet_nil ?_
  rintro _ ⟨zq, rfl⟩
  have hx1 := (((Below.refl w.heap.size w).alloc (Nat.le_refl _) (Obj.cells #[Value.int IntKind.i64 room, Value.int IntKind.i64 crash, Value.int IntKind.i64 keep, Value.int IntKind.i64 torn] 25))).trans ((World.lay_below _ zq).mono (by simp))
  have hpl := blk_below (blk_new w (Obj.cells #[Value.int IntKind.i64 room, Value.int IntKind.i64 crash, Value.int IntKind.i64 keep, Value.int IntKind.i64 torn] 25)) (World.lay_below _ zq)
  generalize (w.alloc (Obj.cells #[Value.int IntKind.i64 room, Value.int IntKind.i64 crash, Value.int IntKind.i64 keep, Value.int IntKind.i64 torn] 25)).lay zq = w1 at *
  have k2' := (hx1.cell (p := ⟨b, 2, none⟩) hb).trans k2
  have f2' := (hx1.frozen (p := ⟨b, 2, none⟩) hb).trans f2
  have HPL := Lib.hid hpl
  have hz1 := blk_lt hpl
  clear hpl k2 f2
  go_wp2_with fail
  have hB1 := blk_below HB.out hx1
  have hO1 := pw_own_below HO.out hx1
  have hT7 : TapeAt (w1.setCell ⟨b, 2, none⟩ (.slice (some ⟨g, 0, none⟩) n n)) base b (some g) { st with loose := st.loose.take n } := by
    refine ⟨_, rfl, hbase, blk_set hB1 2 _, ?_⟩
    have := own_setCell (own_shrink hO1 (k := n) (Nat.le_refl _)) (p := ⟨b, 2, none⟩) (by simp only [Value.ownBlock, ne_eq, Option.some.injEq]; omega) (.slice (some ⟨g, 0, none⟩) n n)
    have hlen : (st.loose.take n).length = n := by have := HNL.out; simp; omega
    show World.ownsRow _ base 61 3 _ (st.loose.take n).length (cellsOf (st.loose.take n))
    rw [hlen, cellsOf_take]
    exact this
  have hP7 := blk_far HPL.out (p := ⟨b, 2, none⟩) (by simp; omega) (.slice (some ⟨g, 0, none⟩) n n)
  have hF7 : Fr w (w1.setCell ⟨b, 2, none⟩ (.slice (some ⟨g, 0, none⟩) n n)) b (some g) := (Fr.of_below hx1 _ _).set 2 _
  generalize (w1.setCell ⟨b, 2, none⟩ (.slice (some ⟨g, 0, none⟩) n n)) = w7 at *
  have l0 : w7.cell? ⟨w.heap.size, 0, none⟩ = some (.int .i64 room) := blk_cell hP7 0
  have l1 : w7.cell? ⟨w.heap.size, 1, none⟩ = some (.int .i64 crash) := blk_cell hP7 1
  have l2 : w7.cell? ⟨w.heap.size, 2, none⟩ = some (.int .i64 keep) := blk_cell hP7 2
  have l3 : w7.cell? ⟨w.heap.size, 3, none⟩ = some (.int .i64 torn) := blk_cell hP7 3
  have hz7 := blk_lt hP7
  have HF7 := Lib.hid hF7
  clear hP7 hF7 hB1 hO1 k2' f2'
  have hs7 : ∀ c ∈ st.loose.take n, 0 ≤ c.side ∧ c.side < 2 := fun c hc => hok.side c (List.mem_of_mem_take hc)
  have hm7 : st.s0.size + st.s1.size + mores (st.loose.take n) ≤ 1000000000000 := by
    have e3 := mores_take_le st.loose n
    have e4 := hok.size
    omega
  have HN7 := Lib.hid (fun w' hb => now_any base b (some g) { st with loose := st.loose.take n } w' (hT7.below (w' := w') hb) hs7 hm7 (by rw [List.length_take]; omega))
  refine region_lay_tail 6 (by kernel_rfl) (by kernel_rfl) ?_
  simp only [List.take_succ_cons, List.take_zero, List.drop_succ_cons, List.drop_zero]
  repeat (go_big_quiet_step (first | (go_at_call 27; exact Calls.lay_of (HN7.out _ (w7.lay_below _)))))
  refine wpQuiet_nil ?_
  rintro _ ⟨zq9, rfl⟩
  have hb8 := w7.lay_below zq9
  have hT8 := hT7.below hb8
  have hF8 : Fr w (w7.lay zq9) b (some g) := HF7.out.trans' (Fr.of_below hb8 _ _)
  generalize w7.lay zq9 = w8 at *
  obtain ⟨lv8, hr8, _, hB8, hO8⟩ := hT8
  have m0 : w8.cell? ⟨b, 0, none⟩ = some (.string st.s0) := blk_cell hB8 0
  have m1 : w8.cell? ⟨b, 1, none⟩ = some (.string st.s1) := blk_cell hB8 1
  have m2 : w8.cell? ⟨b, 2, none⟩ = some lv8 := blk_cell hB8 2
  have m3 : w8.cell? ⟨b, 3, none⟩ = some (.int .i64 st.room) := blk_cell hB8 3
  have m4 : w8.cell? ⟨b, 4, none⟩ = some (.int .i64 st.crash) := blk_cell hB8 4
  have m5 : w8.cell? ⟨b, 5, none⟩ = some (.int .i64 st.keep) := blk_cell hB8 5
  have m6 : w8.cell? ⟨b, 6, none⟩ = some (.int .i64 st.torn) := blk_cell hB8 6
  have m7 : w8.cell? ⟨b, 7, none⟩ = some (.int .i64 st.calls) := blk_cell hB8 7
  have m8 : w8.cell? ⟨b, 8, none⟩ = some (.bool st.down) := blk_cell hB8 8
  have z0 := blk_frozen hB8 0
  have z1 := blk_frozen hB8 1
  have z2 := blk_frozen hB8 2
  have z3 := blk_frozen hB8 3
  have z4 := blk_frozen hB8 4
  have z5 := blk_frozen hB8 5
  have z6 := blk_frozen hB8 6
  have z7 := blk_frozen hB8 7
  have z8 := blk_frozen hB8 8
  have HB8 := Lib.hid hB8
  have HF8 := Lib.hid hF8
  clear hB8 hO8 hF8 hr8 hT7
  go_wp2
  go_end0
  have hfall : fallF st room crash keep torn = { s0 := (nowF (st.s0, st.s1) (st.loose.take n)).1, s1 := (nowF (st.s0, st.s1) (st.loose.take n)).2, loose := [], room := room, crash := crash, keep := keep, torn := torn, calls := 0, down := false } := by
    unfold fallF
    have e1 : (partF keep st.loose.length).toNat = n := by rw [← HNL.out, HP.out]; rfl
    rw [e1, HTN.out]
  rw [hfall]
  refine ⟨rfl, none, ⟨.slice none 0 0, rfl, hbase, set9_heap HB8.out _ _ _ _ _ _ _ _ _, own_nil _ _ _ _⟩, (fun _ h => by cases h), ?_⟩
  exact ((((((((HF8.out.set _ _).set _ _).set _ _).set _ _).set _ _).set _ _).set _ _).set _ _).set _ _

set_option maxHeartbeats 1600000 in
theorem fall_none (base b : Nat) (st : TapeSt) (room crash keep torn : Int) (w : World) 
    (hB : w.heap[b]? = some (.cells (st.cells (.slice none 0 0)) 59 (0, 0))) (hO : w.ownsRow base 61 3 (.slice none 0 0) 0 (cellsOf st.loose)) (hok : st.Ok) (hbase : base ≤ b)
    (hp : partF keep (0 : Nat) = (0 : Nat)) (htn : tornL st.loose 0 torn = st.loose.take 0) (hnl : 0 = st.loose.length) :
    Calls Try.prog 19 #[.pointer (some ⟨b, 0, none⟩), .agg #[.int .i64 room, .int .i64 crash, .int .i64 keep, .int .i64 torn]] w
      fun e w' => e = .returned (.tuple #[]) ∧ ∃ row', TapeAt w' base b row' (fallF st room crash keep torn) ∧ RowOk w none row' ∧ Fr w w' b none := by
  have k2 : w.cell? ⟨b, 2, none⟩ = some (.slice none 0 0) := blk_cell hB 2
  have f2 := blk_frozen hB 2
  have hb := blk_lt hB
  have HTN := Lib.hid htn
  have HNL := Lib.hid hnl
  have HP := Lib.hid hp
  have HO := Lib.hid hO
  have HB := Lib.hid hB
  have hmany := hok.many
  have hn1 : 0 ≤ 1000000000 := by omega
  clear hp hO hB hnl htn
  go_enter Try.func19, Try.ntmps19
  go_wp2_with fail
  refine region_lay (by kernel_rfl) (by kernel_rfl) ?_
  repeat (go_big_quiet_step (first | (go_at_call 32; exact Calls.lay_same (part_at keep 0 0 HP.out (by omega) (by omega) _))))
  refine wpQuiet_nil ?_
  rintro _ ⟨zq, rfl⟩
  have hx1 := (((Below.refl w.heap.size w).alloc (Nat.le_refl _) (Obj.cells #[Value.int IntKind.i64 room, Value.int IntKind.i64 crash, Value.int IntKind.i64 keep, Value.int IntKind.i64 torn] 25))).trans ((World.lay_below _ zq).mono (by simp))
  have hpl := blk_below (blk_new w (Obj.cells #[Value.int IntKind.i64 room, Value.int IntKind.i64 crash, Value.int IntKind.i64 keep, Value.int IntKind.i64 torn] 25)) (World.lay_below _ zq)
  generalize (w.alloc (Obj.cells #[Value.int IntKind.i64 room, Value.int IntKind.i64 crash, Value.int IntKind.i64 keep, Value.int IntKind.i64 torn] 25)).lay zq = w1 at *
  have k2' := (hx1.cell (p := ⟨b, 2, none⟩) hb).trans k2
  have f2' := (hx1.frozen (p := ⟨b, 2, none⟩) hb).trans f2
  have HPL := Lib.hid hpl
  have hz1 := blk_lt hpl
  clear hpl k2 f2
  go_wp2_with fail
  have hB1 := blk_below HB.out hx1
  have hO1 := pw_own_below HO.out hx1
  have hT7 : TapeAt (w1.setCell ⟨b, 2, none⟩ (.slice none 0 0)) base b none { st with loose := st.loose.take 0 } := by
    refine ⟨_, rfl, hbase, blk_set hB1 2 _, ?_⟩
    simp only [List.take_zero]
    exact own_nil _ _ _ _
  have hP7 := blk_far HPL.out (p := ⟨b, 2, none⟩) (by simp; omega) (.slice none 0 0)
  have hF7 : Fr w (w1.setCell ⟨b, 2, none⟩ (.slice none 0 0)) b none := (Fr.of_below hx1 _ _).set 2 _
  generalize (w1.setCell ⟨b, 2, none⟩ (.slice none 0 0)) = w7 at *
  have l0 : w7.cell? ⟨w.heap.size, 0, none⟩ = some (.int .i64 room) := blk_cell hP7 0
  have l1 : w7.cell? ⟨w.heap.size, 1, none⟩ = some (.int .i64 crash) := blk_cell hP7 1
  have l2 : w7.cell? ⟨w.heap.size, 2, none⟩ = some (.int .i64 keep) := blk_cell hP7 2
  have l3 : w7.cell? ⟨w.heap.size, 3, none⟩ = some (.int .i64 torn) := blk_cell hP7 3
  have hz7 := blk_lt hP7
  have HF7 := Lib.hid hF7
  clear hP7 hF7 hB1 hO1 k2' f2'
  have hs7 : ∀ c ∈ st.loose.take 0, 0 ≤ c.side ∧ c.side < 2 := fun c hc => hok.side c (List.mem_of_mem_take hc)
  have hm7 : st.s0.size + st.s1.size + mores (st.loose.take 0) ≤ 1000000000000 := by
    have e3 := mores_take_le st.loose 0
    have e4 := hok.size
    omega
  have HN7 := Lib.hid (fun w' hb => now_any base b none { st with loose := st.loose.take 0 } w' (hT7.below (w' := w') hb) hs7 hm7 (by rw [List.length_take]; omega))
  refine region_lay_tail 6 (by kernel_rfl) (by kernel_rfl) ?_
  simp only [List.take_succ_cons, List.take_zero, List.drop_succ_cons, List.drop_zero]
  repeat (go_big_quiet_step (first | (go_at_call 27; exact Calls.lay_of (HN7.out _ (w7.lay_below _)))))
  refine wpQuiet_nil ?_
  rintro _ ⟨zq9, rfl⟩
  have hb8 := w7.lay_below zq9
  have hT8 := hT7.below hb8
  have hF8 : Fr w (w7.lay zq9) b none := HF7.out.trans' (Fr.of_below hb8 _ _)
  generalize w7.lay zq9 = w8 at *
  obtain ⟨lv8, hr8, _, hB8, hO8⟩ := hT8
  have m0 : w8.cell? ⟨b, 0, none⟩ = some (.string st.s0) := blk_cell hB8 0
  have m1 : w8.cell? ⟨b, 1, none⟩ = some (.string st.s1) := blk_cell hB8 1
  have m2 : w8.cell? ⟨b, 2, none⟩ = some lv8 := blk_cell hB8 2
  have m3 : w8.cell? ⟨b, 3, none⟩ = some (.int .i64 st.room) := blk_cell hB8 3
  have m4 : w8.cell? ⟨b, 4, none⟩ = some (.int .i64 st.crash) := blk_cell hB8 4
  have m5 : w8.cell? ⟨b, 5, none⟩ = some (.int .i64 st.keep) := blk_cell hB8 5
  have m6 : w8.cell? ⟨b, 6, none⟩ = some (.int .i64 st.torn) := blk_cell hB8 6
  have m7 : w8.cell? ⟨b, 7, none⟩ = some (.int .i64 st.calls) := blk_cell hB8 7
  have m8 : w8.cell? ⟨b, 8, none⟩ = some (.bool st.down) := blk_cell hB8 8
  have z0 := blk_frozen hB8 0
  have z1 := blk_frozen hB8 1
  have z2 := blk_frozen hB8 2
  have z3 := blk_frozen hB8 3
  have z4 := blk_frozen hB8 4
  have z5 := blk_frozen hB8 5
  have z6 := blk_frozen hB8 6
  have z7 := blk_frozen hB8 7
  have z8 := blk_frozen hB8 8
  have HB8 := Lib.hid hB8
  have HF8 := Lib.hid hF8
  clear hB8 hO8 hF8 hr8 hT7
  go_wp2
  go_end0
  have hfall : fallF st room crash keep torn = { s0 := (nowF (st.s0, st.s1) (st.loose.take 0)).1, s1 := (nowF (st.s0, st.s1) (st.loose.take 0)).2, loose := [], room := room, crash := crash, keep := keep, torn := torn, calls := 0, down := false } := by
    unfold fallF
    have e1 : (partF keep st.loose.length).toNat = 0 := by rw [← HNL.out, HP.out]; rfl
    rw [e1, HTN.out]
  rw [hfall]
  refine ⟨rfl, none, ⟨.slice none 0 0, rfl, hbase, set9_heap HB8.out _ _ _ _ _ _ _ _ _, own_nil _ _ _ _⟩, (fun _ h => by cases h), ?_⟩
  exact ((((((((HF8.out.set _ _).set _ _).set _ _).set _ _).set _ _).set _ _).set _ _).set _ _).set _ _

theorem fall_any (base b : Nat) (row : Option Nat) (st : TapeSt) (room crash keep torn : Int) (w : World) (hT : TapeAt w base b row st) (hok : st.Ok) :
    Calls Try.prog 19 #[.pointer (some ⟨b, 0, none⟩), .agg #[.int .i64 room, .int .i64 crash, .int .i64 keep, .int .i64 torn]] w
      fun e w' => e = .returned (.tuple #[]) ∧ ∃ row', TapeAt w' base b row' (fallF st room crash keep torn) ∧ RowOk w row row' ∧ Fr w w' b row := by
  obtain ⟨lv, hr, hbase, hB, hO⟩ := hT
  have hpr := partF_range keep st.loose.length
  obtain ⟨k, hk⟩ : ∃ k : Nat, partF keep st.loose.length = k := ⟨(partF keep st.loose.length).toNat, by omega⟩
  have hkl : k ≤ st.loose.length := by omega
  have hmany := hok.many
  rcases hO.2 with ⟨hv, hn⟩ | ⟨g, cap, cur, hv, hbg, hh, h1, h2, h3, h4⟩
  · subst hv
    have hnil : st.loose = [] := List.length_eq_zero_iff.1 hn
    have hk0 : k = 0 := by omega
    subst hk0
    have hr' : row = none := hr.symm
    subst hr'
    rw [hn] at hO hk
    exact fall_none base b st room crash keep torn w hB hO hok hbase hk (by rw [hnil]; rfl) hn.symm
  · subst hv
    have hr' : row = some g := hr.symm
    subst hr'
    have hcap : cap ≤ 9223372036854775807 := by unfold maxLen at h2; omega
    rcases Nat.lt_or_ge k st.loose.length with hlt | hge
    · obtain ⟨a0, a1, a2⟩ := cellsOf_get st.loose k hlt
      have hdr : st.loose.drop k = st.loose[k] :: st.loose.drop (k + 1) := List.drop_eq_getElem_cons hlt
      cases hw : st.loose[k].wipe with
      | true =>
        refine fall_wipe base b st room crash keep torn w g cap k st.loose.length hlt h1 ?_ (blk_lt hh) hB hO hok hbase hk ?_ rfl
        · rw [← hw]; exact (own_cells hO _ _ a1).1
        · unfold tornL; rw [hdr]; simp only [hw, if_true]
      | false =>
        refine fall_torn base b g cap st room crash keep torn w k st.loose.length hlt hk hB hO hok hmany h1 hcap hbase st.loose[k].side (st.loose.drop (k + 1)) (hok.side _ (List.getElem_mem hlt)) st.loose[k].more (mores_take st.loose k hlt) rfl ?_ ?_ (own_cells hO _ _ a0).1 ?_ (own_cells hO _ _ a2).1 (blk_lt hh)
        · rw [hdr, ← hw]
        · have e1 := mores_take st.loose k hlt
          have e2 := hok.size
          omega
        · rw [← hw]; exact (own_cells hO _ _ a1).1
    · have hkn : k = st.loose.length := by omega
      subst hkn
      have ht : tornL st.loose st.loose.length torn = st.loose.take st.loose.length := by unfold tornL; rw [List.drop_length]
      rcases Nat.lt_or_ge st.loose.length cap with hc | hc
      · exact fall_end base b st room crash keep torn w g cap st.loose.length hc hcap hB hO hok hbase hk ht rfl
      · obtain rfl : cap = st.loose.length := by omega
        exact fall_full base b st room crash keep torn w g st.loose.length hcap hB hO hok hbase hk ht rfl

end Go.Proofs.Ytallocndghjoeaa
