/- Walks of package tape: a fall. -/
import Derived.Test.YtallocndghjoeaaTh
namespace Go.Proofs.Ytallocndghjoeaa
open Go.RowKit Go.Proofs.YtallocndghjoeaaW.PrintWords

set_option maxHeartbeats 400000 in
theorem fall_nil (room crash keep torn : Int) (w : World) :
    Calls Try.prog 19 #[.pointer none, .agg #[.int .i64 room, .int .i64 crash, .int .i64 keep, .int .i64 torn]] w
      fun e w' => e = .returned (.tuple #[]) ∧ Below w.heap.size w w' := by
  go_enter Try.func19, Try.ntmps19
  go_wp2
  exact bodyPost_ret (v := .tuple #[]) (by simp [results, Try.results19, go_sem]) rfl ⟨rfl, (Below.refl _ _).alloc (Nat.le_refl _) _⟩

theorem partF_range (n : Int) (m : Nat) : 0 ≤ partF n m ∧ partF n m ≤ m := by
  unfold partF
  split
  · omega
  · have h1 := Int.emod_nonneg n (show (m : Int) + 1 ≠ 0 by omega)
    have h2 := Int.emod_lt_of_pos n (show 0 < (m : Int) + 1 by omega)
    omega

theorem part_at (n m : Int) (t : Nat) (ht : partF n m = t) (hm : 0 ≤ m) (hm2 : m ≤ 1000000000000) (w : World) : Calls Try.prog 32 #[.int .i64 n, .int .i64 m] w fun e w' => e = .returned (.int .i64 (t : Int)) ∧ w = w' := by
  rw [← ht]; exact part_any n m hm hm2 w

def cutMore (c : Chg) (n : Nat) : Chg := { c with more := c.more.extract 0 n }

def tornL (l : List Chg) (kept : Nat) (torn : Int) : List Chg :=
  match l.drop kept with
  | [] => l.take kept
  | c :: _ => if c.wipe then l.take kept else l.take kept ++ [cutMore c (partF torn c.more.size).toNat]

def fallF (st : TapeSt) (room crash keep torn : Int) : TapeSt :=
  { s0 := (nowF (st.s0, st.s1) (tornL st.loose (partF keep st.loose.length).toNat torn)).1
    s1 := (nowF (st.s0, st.s1) (tornL st.loose (partF keep st.loose.length).toNat torn)).2
    loose := [], room := room, crash := crash, keep := keep, torn := torn, calls := 0, down := false }

theorem own_shrink {w : World} {base g n cap size k : Nat} {e : TypeId} {xs : List Value} (h : w.ownsRow base e size (.slice (some ⟨g, 0, none⟩) n cap) n xs) (hk : k ≤ n) :
    w.ownsRow base e size (.slice (some ⟨g, 0, none⟩) k cap) k (xs.take (k * size)) := by
  obtain ⟨h1, h2⟩ := h
  have hks : k * size ≤ n * size := Nat.mul_le_mul_right _ hk
  refine ⟨by rw [List.length_take, h1, Nat.min_eq_left hks], .inr ?_⟩
  rcases h2 with ⟨hv, _⟩ | ⟨g', cap', cur, hv, hg, hh, h3, h4, h5, h6⟩
  · cases hv
  · injection hv with hv hn hc
    injection hv with hv
    injection hv with hv
    subst hv
    subst hc
    exact ⟨g, cap, cur, rfl, hg, hh, by omega, h4, h5, by rw [← h6, List.take_take, Nat.min_eq_left hks]⟩

theorem cellsOf_take (l : List Chg) : ∀ k, cellsOf (l.take k) = (cellsOf l).take (k * 3) := by
  induction l with
  | nil => intro k; simp [cellsOf]
  | cons c l ih =>
    intro k
    cases k with
    | zero => simp [cellsOf]
    | succ k =>
      have e : ∀ m : List Chg, cellsOf (c :: m) = [.int .i64 c.side, .bool c.wipe, .string c.more] ++ cellsOf m := fun _ => rfl
      rw [List.take_succ_cons, e, e, ih, show (k + 1) * 3 = k * 3 + 3 by omega]
      simp

theorem mores_app (a b : List Chg) : mores (a ++ b) = mores a + mores b := by
  induction a with
  | nil => simp [mores]
  | cons c a ih =>
    have e : ∀ m : List Chg, mores (c :: m) = c.more.size + mores m := fun _ => rfl
    rw [List.cons_append, e, e, ih]; omega

theorem Fr.setNew {w w1 : World} {b : Nat} {row : Option Nat} (h : Fr w w1 b row) {p : Addr} (hp : w.heap.size ≤ p.block) (u : Value) : Fr w (w1.setCell p u) b row :=
  ⟨h.os, h.tape, h.output, by simpa [World.setCell] using h.size, fun k hk hb hr => (Below.heap_setCell _ _ _ _ (by omega)).trans (h.block k hk hb hr)⟩

theorem extract_size (s : ByteArray) (n : Nat) : (s.extract 0 n).size ≤ s.size := by simp [ByteArray.size_extract]; omega

theorem set9_heap {w : World} {b : Nat} {s0 s1 : ByteArray} {lv : Value} {r c k t n : Int} {d : Bool} (h : w.heap[b]? = some (.cells (tapeCells s0 s1 lv r c k t n d) 59 (0, 0)))
    (x y : ByteArray) (v : Value) (r' c' k' t' n' : Int) (d' : Bool) :
    (((((((((w.setCell ⟨b, 0, none⟩ (.string x)).setCell ⟨b, 1, none⟩ (.string y)).setCell ⟨b, 2, none⟩ v).setCell ⟨b, 3, none⟩ (.int .i64 r')).setCell ⟨b, 4, none⟩ (.int .i64 c')).setCell ⟨b, 5, none⟩ (.int .i64 k')).setCell ⟨b, 6, none⟩ (.int .i64 t')).setCell ⟨b, 7, none⟩ (.int .i64 n')).setCell ⟨b, 8, none⟩ (.bool d')).heap[b]?
      = some (.cells (tapeCells x y v r' c' k' t' n' d') 59 (0, 0)) := by
  refine (blk_set (blk_set (blk_set (blk_set (blk_set (blk_set (blk_set (blk_set (blk_set h 0 _) 1 _) 2 _) 3 _) 4 _) 5 _) 6 _) 7 _) 8 _).trans ?_
  simp [tapeCells]


set_option maxHeartbeats 1600000 in
theorem fall_torn (base b g cap : Nat) (st : TapeSt) (room crash keep torn : Int) (w : World) (k n : Nat) (hk : k < n)
    (hp : partF keep n = k) (hB : w.heap[b]? = some (.cells (st.cells (.slice (some ⟨g, 0, none⟩) n cap)) 59 (0, 0)))  (hO : w.ownsRow base 61 3 (.slice (some ⟨g, 0, none⟩) n cap) n (cellsOf st.loose)) (hok : st.Ok) (hn : n ≤ 1000000000) (hc : n ≤ cap) (hcap : cap ≤ 9223372036854775807)
    (hbase : base ≤ b) (sd : Int) (rest : List Chg) (hsd : 0 ≤ sd ∧ sd < 2) (mr : ByteArray) (hmk : mores (st.loose.take k) + mr.size ≤ mores st.loose) (hnl : n = st.loose.length) (hdr : st.loose.drop k = ⟨sd, false, mr⟩ :: rest) (hmr : (mr.size : Int) ≤ 1000000000000) (h0 : w.cell? ⟨g, k * 3, none⟩ = some (.int .i64 sd)) (h1 : w.cell? ⟨g, k * 3 + 1, none⟩ = some (.bool false)) (h2 : w.cell? ⟨g, k * 3 + 2, none⟩ = some (.string mr)) (hg : g < w.heap.size) :
    Calls Try.prog 19 #[.pointer (some ⟨b, 0, none⟩), .agg #[.int .i64 room, .int .i64 crash, .int .i64 keep, .int .i64 torn]] w
      fun e w' => e = .returned (.tuple #[]) ∧ ∃ row', TapeAt w' base b row' (fallF st room crash keep torn) ∧ RowOk w (some g) row' ∧ Fr w w' b (some g) := by
  have k2 : w.cell? ⟨b, 2, none⟩ = some (.slice (some ⟨g, 0, none⟩) n cap) := blk_cell hB 2
  have f2 := blk_frozen hB 2
  have hb := blk_lt hB
  have hgb : g ≠ b := fun e => own_ne hO hB (by decide) (by rw [e]; rfl)
  have hbg : b ≠ g := fun e => hgb e.symm
  have hbaseg := own_base hO g rfl
  have HNL := Lib.hid hnl
  have HDR := Lib.hid hdr
  have HP := Lib.hid hp
  have HO := Lib.hid hO
  have HB := Lib.hid hB
  clear hp hO hB hnl hdr
  go_enter Try.func19, Try.ntmps19
  go_wp2_with fail
  refine region_lay (by kernel_rfl) (by kernel_rfl) ?_
  repeat (go_big_quiet_step (first | (go_at_call 32; exact Calls.lay_same (part_any keep n (by omega) (by omega) _))))
  refine wpQuiet_nil ?_
  rintro _ ⟨zq, rfl⟩
  rw [HP.out]
  have hx1 := (((Below.refl w.heap.size w).alloc (Nat.le_refl _) (Obj.cells #[Value.int IntKind.i64 room, Value.int IntKind.i64 crash, Value.int IntKind.i64 keep, Value.int IntKind.i64 torn] 25))).trans ((World.lay_below _ zq).mono (by simp))
  have hpl := blk_below (blk_new w (Obj.cells #[Value.int IntKind.i64 room, Value.int IntKind.i64 crash, Value.int IntKind.i64 keep, Value.int IntKind.i64 torn] 25)) (World.lay_below _ zq)
  generalize (w.alloc (Obj.cells #[Value.int IntKind.i64 room, Value.int IntKind.i64 crash, Value.int IntKind.i64 keep, Value.int IntKind.i64 torn] 25)).lay zq = w1 at *
  have k2' := (hx1.cell (p := ⟨b, 2, none⟩) hb).trans k2
  have f2' := (hx1.frozen (p := ⟨b, 2, none⟩) hb).trans f2
  have h0' := (hx1.cell (p := ⟨g, k * 3, none⟩) hg).trans h0
  have h1' := (hx1.cell (p := ⟨g, k * 3 + 1, none⟩) hg).trans h1
  have h2' := (hx1.cell (p := ⟨g, k * 3 + 2, none⟩) hg).trans h2
  have p0 : w1.cell? ⟨w.heap.size, 0, none⟩ = some (.int .i64 room) := blk_cell hpl 0
  have p1 : w1.cell? ⟨w.heap.size, 1, none⟩ = some (.int .i64 crash) := blk_cell hpl 1
  have p2 : w1.cell? ⟨w.heap.size, 2, none⟩ = some (.int .i64 keep) := blk_cell hpl 2
  have p3 : w1.cell? ⟨w.heap.size, 3, none⟩ = some (.int .i64 torn) := blk_cell hpl 3
  have HPL := Lib.hid hpl
  have hz1 := blk_lt hpl
  clear hpl k2 f2 h0 h1 h2
  go_wp2_with fail
  have ht0 := partF_range torn mr.size
  obtain ⟨tk, htk⟩ : ∃ tk : Nat, partF torn mr.size = tk := ⟨(partF torn mr.size).toNat, by omega⟩
  have htl : tk ≤ mr.size := by omega
  have HTK := Lib.hid htk
  clear htk ht0
  have hB1 := blk_below HB.out hx1
  have hO1 := pw_own_below HO.out hx1
  have hF3 : Fr w ((w1.setCell ⟨b, 2, none⟩ (.slice (some ⟨g, 0, none⟩) k cap)).alloc (Obj.cells #[.int .i64 sd, .bool false, .string mr] 61)) b (some g) :=
    ((Fr.of_below hx1 _ _).set _ _).alloc _
  have hB3 := blk_alloc (blk_set hB1 2 (.slice (some ⟨g, 0, none⟩) k cap)) (Obj.cells #[.int .i64 sd, .bool false, .string mr] 61)
  have hO3 := (own_setCell hO1 (p := ⟨b, 2, none⟩) (by simp only [Value.ownBlock, ne_eq, Option.some.injEq]; omega) (.slice (some ⟨g, 0, none⟩) k cap)).alloc (Obj.cells #[.int .i64 sd, .bool false, .string mr] 61)
  have hC3 := blk_new (w1.setCell ⟨b, 2, none⟩ (.slice (some ⟨g, 0, none⟩) k cap)) (Obj.cells #[.int .i64 sd, .bool false, .string mr] 61)
  have hP3 := blk_alloc (blk_far HPL.out (p := ⟨b, 2, none⟩) (by simp; omega) (.slice (some ⟨g, 0, none⟩) k cap)) (Obj.cells #[.int .i64 sd, .bool false, .string mr] 61)
  have hs1 : (w1.setCell ⟨b, 2, none⟩ (.slice (some ⟨g, 0, none⟩) k cap)).heap.size = w1.heap.size := by simp
  rw [hs1] at hC3
  clear hs1 hB1 hO1 k2' f2' h0' h1' h2' p0 p1 p2 p3
  generalize ((w1.setCell ⟨b, 2, none⟩ (.slice (some ⟨g, 0, none⟩) k cap)).alloc (Obj.cells #[.int .i64 sd, .bool false, .string mr] 61)) = w3 at *
  have p3 : w3.cell? ⟨w.heap.size, 3, none⟩ = some (.int .i64 torn) := blk_cell hP3 3
  have c2 : w3.cell? ⟨w1.heap.size, 2, none⟩ = some (.string mr) := blk_cell hC3 2
  have hz2 := blk_lt hC3
  have hz3 := blk_lt hP3
  have HB3 := Lib.hid hB3
  have HO3 := Lib.hid hO3
  have HC3 := Lib.hid hC3
  have HP3 := Lib.hid hP3
  clear hB3 hO3 hC3 hP3
  refine region_lay_tail 10 (by kernel_rfl) (by kernel_rfl) ?_
  simp only [List.take_succ_cons, List.take_zero, List.drop_succ_cons, List.drop_zero]
  repeat (go_big_quiet_step (first | (go_at_call 32; exact Calls.lay_same (part_at torn mr.size tk HTK.out (by omega) hmr _))))
  refine wpQuiet_nil ?_
  rintro _ ⟨zq, rfl⟩
  have hb4 := w3.lay_below zq
  have hB4 := blk_below HB3.out hb4
  have hO4 := pw_own_below HO3.out hb4
  have hC4 := blk_below HC3.out hb4
  have hP4 := blk_below HP3.out hb4
  have hF4 : Fr w (w3.lay zq) b (some g) := hF3.trans' (Fr.of_below hb4 _ _)
  generalize w3.lay zq = w4 at *
  have c2' : w4.cell? ⟨w1.heap.size, 2, none⟩ = some (.string mr) := blk_cell hC4 2
  have f2' := blk_frozen hC4 2
  have HB4 := Lib.hid hB4
  have HO4 := Lib.hid hO4
  have HC4 := Lib.hid hC4
  have HP4 := Lib.hid hP4
  have hz4 := hb4.size
  clear hB4 hO4 hC4 hP4 c2 p3
  go_wp2_with fail
  have hF5 := hF4.setNew (p := ⟨w1.heap.size, 2, none⟩) hx1.size (.string (mr.extract 0 tk))
  have hg1 : g < w1.heap.size := Nat.lt_of_lt_of_le hg hx1.size
  have hb1 : b < w1.heap.size := Nat.lt_of_lt_of_le hb hx1.size
  have hB5 := blk_far HB4.out (p := ⟨w1.heap.size, 2, none⟩) (by simp; omega) (.string (mr.extract 0 tk))
  have hP5 := blk_far HP4.out (p := ⟨w1.heap.size, 2, none⟩) (by simp; omega) (.string (mr.extract 0 tk))
  have hC5 := blk_set HC4.out 2 (.string (mr.extract 0 tk))
  have hO5 := own_setCell HO4.out (p := ⟨w1.heap.size, 2, none⟩) (by simp only [Value.ownBlock, ne_eq, Option.some.injEq]; omega) (.string (mr.extract 0 tk))
  have hs5 : (w4.setCell ⟨w1.heap.size, 2, none⟩ (.string (mr.extract 0 tk))).heap.size = w4.heap.size := by simp
  clear c2' f2'
  generalize (w4.setCell ⟨w1.heap.size, 2, none⟩ (.string (mr.extract 0 tk))) = w5 at *
  generalize hct : mr.extract 0 tk = ct at *
  have hO5' := own_shrink hO5 (Nat.le_of_lt hk)
  rw [← cellsOf_take] at hO5'
  have d0 : w5.cell? ⟨w1.heap.size, 0, none⟩ = some (.int .i64 sd) := blk_cell hC5 0
  have d1 : w5.cell? ⟨w1.heap.size, 1, none⟩ = some (.bool false) := blk_cell hC5 1
  have d2 : w5.cell? ⟨w1.heap.size, 2, none⟩ = some (.string ct) := blk_cell hC5 2
  have k2 : w5.cell? ⟨b, 2, none⟩ = some (.slice (some ⟨g, 0, none⟩) k cap) := blk_cell hB5 2
  have g2 := blk_frozen hB5 2
  have OWN := Lib.hid ((hO5'.alloc (.cells #[.int .i64 sd, .bool false, .string ct] 61)).drew)
  have NEWS := Lib.hid (news3 w5 (.int .i64 sd) (.bool false) (.string ct) 61)
  have hz5 : w4.heap.size = w5.heap.size := hs5.symm
  have hz6 : w1.heap.size < w5.heap.size := by omega
  have HB5 := Lib.hid hB5
  have HP5 := Lib.hid hP5
  have HCT := Lib.hid hct
  have HF5 := Lib.hid hF5
  have hbs5 : base ≤ w5.heap.size := by omega
  have hb5 : b < w5.heap.size := by omega
  obtain ⟨i0, hi, hz0, hz1', hz2'⟩ := info_parts info61
  have Hi := Lib.hid hi
  have Hz0 := Lib.hid hz0
  have Hz1 := Lib.hid hz1'
  have Hz2 := Lib.hid hz2'
  clear hB5 hP5 hct hF5 hi hz0 hz1' hz2' hs5 hO5 hO5' hC5 hz5 hF4 hF3
  go_region_law (refine step_append_lies _ rfl (.tmp 59) (.tmp 61) 57 rfl base 61 i0 (.agg #[.int .i64 0, .bool false, .string ⟨#[]⟩]) 3 32 Try.underlying57 Hi.out Hz0.out Hz1.out Hz2.out rfl (by decide) (.slice (some ⟨g, 0, none⟩) k cap) k (cellsOf (st.loose.take k)) rfl OWN.out ⟨w5.heap.size, 0, none⟩ 1 1 [.int .i64 sd, .bool false, .string ct] rfl rfl NEWS.out (one3 _ _ _ rfl rfl rfl) (by omega) (by unfold maxLen; omega) (by omega) (by simp; omega) (w5.heap.size + 1) (by simp) ?_; intro g' cap' w6 hown6 hgr6 hat6 hlt6; have hB6 := blk_grown (blk_drew (blk_alloc HB5.out _)) hgr6 (by simp only [Value.ownBlock, ne_eq, Option.some.injEq]; omega); have q2 : w6.cell? ⟨b, 2, none⟩ = some (.slice (some ⟨g, 0, none⟩) k cap) := blk_cell hB6 2; have r2 := blk_frozen hB6 2; have HB6 := Lib.hid hB6; clear hB6)
  all_goals
    have hP6 := blk_grown (blk_drew (blk_alloc HP5.out _)) hgr6 (by simp only [Value.ownBlock, ne_eq, Option.some.injEq]; omega)
    have hF6 : Fr w w6 b (some g) := ((HF5.out.alloc _).drew).trans (Fr.of_grown hgr6 b) (fun j hj => .inl (by simpa [Value.ownBlock] using hj))
    have hgb' : g' ≠ b := by
      rcases hat6 with hat | hat
      · simp only [Value.ownBlock, Option.some.injEq] at hat; omega
      · omega
    have hrow' : RowOk w (some g) (some g') := by
      intro j hj
      rcases hat6 with hat | hat
      · simp only [Value.ownBlock, Option.some.injEq] at hat hj; exact .inl (by rw [hat, hj])
      · simp only [Option.some.injEq] at hj; exact .inr (by omega)
    have hT7 : TapeAt (w6.setCell ⟨b, 2, none⟩ (.slice (some ⟨g', 0, none⟩) (k + 1) cap')) base b (some g') { st with loose := st.loose.take k ++ [⟨sd, false, ct⟩] } := by
      refine ⟨_, rfl, hbase, blk_set HB6.out 2 _, ?_⟩
      have := own_setCell hown6 (p := ⟨b, 2, none⟩) (by simp only [Value.ownBlock, ne_eq, Option.some.injEq]; omega) (.slice (some ⟨g', 0, none⟩) (k + 1) cap')
      have hlen : (st.loose.take k ++ [(⟨sd, false, ct⟩ : Chg)]).length = k + 1 := by have := HNL.out; simp; omega
      show World.ownsRow _ base 61 3 _ (st.loose.take k ++ [(⟨sd, false, ct⟩ : Chg)]).length (cellsOf (st.loose.take k ++ [(⟨sd, false, ct⟩ : Chg)]))
      rw [hlen, cellsOf_snoc]
      exact this
    have hP7 := blk_far hP6 (p := ⟨b, 2, none⟩) (by simp; omega) (.slice (some ⟨g', 0, none⟩) (k + 1) cap')
    have hF7 := hF6.set 2 (.slice (some ⟨g', 0, none⟩) (k + 1) cap')
    clear q2 r2 hP6 hF6 hown6 hgr6
    go_wp2_with fail
    generalize (w6.setCell ⟨b, 2, none⟩ (.slice (some ⟨g', 0, none⟩) (k + 1) cap')) = w7 at *
    have l0 : w7.cell? ⟨w.heap.size, 0, none⟩ = some (.int .i64 room) := blk_cell hP7 0
    have l1 : w7.cell? ⟨w.heap.size, 1, none⟩ = some (.int .i64 crash) := blk_cell hP7 1
    have l2 : w7.cell? ⟨w.heap.size, 2, none⟩ = some (.int .i64 keep) := blk_cell hP7 2
    have l3 : w7.cell? ⟨w.heap.size, 3, none⟩ = some (.int .i64 torn) := blk_cell hP7 3
    have hz7 := blk_lt hP7
    have HF7 := Lib.hid hF7
    have HR := Lib.hid hrow'
    clear hP7 hF7 hrow' d0 d1 d2 k2 g2
    have hs7 : ∀ c ∈ st.loose.take k ++ [(⟨sd, false, ct⟩ : Chg)], 0 ≤ c.side ∧ c.side < 2 := by
      intro c hc
      rcases List.mem_append.1 hc with hc | hc
      · exact hok.side c (List.mem_of_mem_take hc)
      · simp only [List.mem_singleton] at hc
        subst hc
        exact hsd
    have hm7 : st.s0.size + st.s1.size + mores (st.loose.take k ++ [(⟨sd, false, ct⟩ : Chg)]) ≤ 1000000000000 := by
      have e1 := mores_app (st.loose.take k) [(⟨sd, false, ct⟩ : Chg)]
      have e2 : mores [(⟨sd, false, ct⟩ : Chg)] = ct.size := by simp [mores]
      have e3 := extract_size mr tk
      have e4 := hok.size
      rw [HCT.out] at e3
      omega
    have HN7 := Lib.hid (fun w' hb => now_any base b (some g') { st with loose := st.loose.take k ++ [⟨sd, false, ct⟩] } w' (hT7.below (w' := w') hb) hs7 hm7 (by simp; omega))
    refine region_lay_tail 6 (by kernel_rfl) (by kernel_rfl) ?_
    simp only [List.take_succ_cons, List.take_zero, List.drop_succ_cons, List.drop_zero]
    repeat (go_big_quiet_step (first | (go_at_call 27; exact Calls.lay_of (HN7.out _ (w7.lay_below _)))))
    refine wpQuiet_nil ?_
    rintro _ ⟨zq9, rfl⟩
    have hb8 := w7.lay_below zq9
    have hT8 := hT7.below hb8
    have hF8 : Fr w (w7.lay zq9) b (some g) := HF7.out.trans' (Fr.of_below hb8 _ _)
    generalize w7.lay zq9 = w8 at *
    obtain ⟨lv8, hr8, _, hB8, hO8⟩ := hT8
    have m0 : w8.cell? ⟨b, 0, none⟩ = some (.string st.s0) := blk_cell hB8 0
    have m1 : w8.cell? ⟨b, 1, none⟩ = some (.string st.s1) := blk_cell hB8 1
    have m2 : w8.cell? ⟨b, 2, none⟩ = some lv8 := blk_cell hB8 2
    have m3 : w8.cell? ⟨b, 3, none⟩ = some (.int .i64 st.room) := blk_cell hB8 3
    have m4 : w8.cell? ⟨b, 4, none⟩ = some (.int .i64 st.crash) := blk_cell hB8 4
    have m5 : w8.cell? ⟨b, 5, none⟩ = some (.int .i64 st.keep) := blk_cell hB8 5
    have m6 : w8.cell? ⟨b, 6, none⟩ = some (.int .i64 st.torn) := blk_cell hB8 6
    have m7 : w8.cell? ⟨b, 7, none⟩ = some (.int .i64 st.calls) := blk_cell hB8 7
    have m8 : w8.cell? ⟨b, 8, none⟩ = some (.bool st.down) := blk_cell hB8 8
    have z0 := blk_frozen hB8 0
    have z1 := blk_frozen hB8 1
    have z2 := blk_frozen hB8 2
    have z3 := blk_frozen hB8 3
    have z4 := blk_frozen hB8 4
    have z5 := blk_frozen hB8 5
    have z6 := blk_frozen hB8 6
    have z7 := blk_frozen hB8 7
    have z8 := blk_frozen hB8 8
    have HB8 := Lib.hid hB8
    have HF8 := Lib.hid hF8
    clear hB8 hO8 hF8 hr8 hT7
    go_wp2
    go_end0
    have hfall : fallF st room crash keep torn = { s0 := (nowF (st.s0, st.s1) (st.loose.take k ++ [(⟨sd, false, ct⟩ : Chg)])).1, s1 := (nowF (st.s0, st.s1) (st.loose.take k ++ [(⟨sd, false, ct⟩ : Chg)])).2, loose := [], room := room, crash := crash, keep := keep, torn := torn, calls := 0, down := false } := by
      unfold fallF
      have e1 : (partF keep st.loose.length).toNat = k := by rw [← HNL.out, HP.out]; rfl
      have e2 : tornL st.loose k torn = st.loose.take k ++ [(⟨sd, false, ct⟩ : Chg)] := by
        unfold tornL
        rw [HDR.out]
        simp only [Bool.false_eq_true, if_false, cutMore, HTK.out, Int.toNat_natCast, HCT.out]
      rw [e1, e2]
    rw [hfall]
    refine ⟨rfl, none, ⟨.slice none 0 0, rfl, hbase, set9_heap HB8.out _ _ _ _ _ _ _ _ _, own_nil _ _ _ _⟩, (fun _ h => by cases h), ?_⟩
    exact ((((((((HF8.out.set _ _).set _ _).set _ _).set _ _).set _ _).set _ _).set _ _).set _ _).set _ _

end Go.Proofs.Ytallocndghjoeaa
