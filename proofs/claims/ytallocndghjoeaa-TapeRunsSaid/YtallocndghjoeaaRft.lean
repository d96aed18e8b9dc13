/- Walks of the reference's tape: a fall, one of its ways. -/
import Derived.Test.YtallocndghjoeaaRf
namespace Go.Proofs.Ytallocndghjoeaa
open Go.RowKit Go.Proofs.YtallocndghjoeaaW.PrintWords
set_option linter.unusedVariables false
attribute [local go_sem] mx_zero mx_two

set_option maxRecDepth 100000 in
set_option maxHeartbeats 3200000 in
theorem rfall_torn (base b : Nat) (st : TapeSt) (room crash keep torn : Int) (w : World) (g cap k n : Nat) (hkn : k < n) (hc : n ≤ cap) (sd : Int) (rest : List Chg) (hsd : 0 ≤ sd ∧ sd < 2) (mr : ByteArray) (hmr : (mr.size : Int) ≤ 1000000000000) (hmk : mores (st.loose.take k) + mr.size ≤ mores st.loose) (hdr : st.loose.drop k = ⟨sd, false, mr⟩ :: rest)
    (hT : RefAt w base b (some g) st) (sv : Value) (hB : w.heap[b]? = some (.cells (refCells sv (.slice (some ⟨g, 0, none⟩) n cap) st) 52 (0, 0))) (hP : PairAt w base sv st.s0 st.s1) (hO : w.ownsRow base 68 3 (.slice (some ⟨g, 0, none⟩) n cap) n (cellsOf st.loose)) (hok : st.Ok) (hbare : Bare st.loose) (hbs : base ≤ w.heap.size) (hbase : base ≤ b)
    (hp : partF keep (n : Nat) = (k : Nat))  (hnl : n = st.loose.length) :
    Calls Try.prog 24 #[.pointer (some ⟨b, 0, none⟩), .agg #[.int .i64 room, .int .i64 crash, .int .i64 keep, .int .i64 torn]] w
      fun e w' => e = .returned (.tuple #[]) ∧ ∃ row', RefAt w' base b row' (fallF st room crash keep torn) ∧ RowOk w (some g) row' ∧ Fr w w' b (some g) := by
  obtain ⟨sg, sc, scur, rfl, hsg, hSB, hs0, hs1⟩ := hP
  have hmz := mxz_nonneg keep
  have hmk0 : mxz keep % ((n : Int) + 1) = ((k : Nat) : Int) := (mxz_part keep _).trans hp
  have r0 : w.cell? ⟨b, 0, none⟩ = some (.slice (some ⟨sg, 0, none⟩) 2 sc) := blk_cell hB 0
  have r1 : w.cell? ⟨b, 1, none⟩ = some (.slice (some ⟨g, 0, none⟩) n cap) := blk_cell hB 1
  have hb := blk_lt hB
  have hsgl := blk_lt hSB
  have hmany := hok.many
  have x0 : w.cell? ⟨sg, 0, none⟩ = some (.string st.s0) := (blk_cell hSB 0).trans hs0
  have x1 : w.cell? ⟨sg, 1, none⟩ = some (.string st.s1) := (blk_cell hSB 1).trans hs1
  have hn1 : n ≤ 1000000000 := by omega
  have hgl : g < w.heap.size := own_lt hO g rfl
  have hlk : k < st.loose.length := by omega
  have hel : st.loose[k] = ⟨sd, false, mr⟩ := by
    have h1 := List.drop_eq_getElem_cons hlk
    rw [hdr] at h1
    injection h1 with h1 _
    exact h1.symm
  obtain ⟨a0, a1, a2⟩ := cellsOf_get st.loose k hlk
  rw [hel] at a0 a1 a2
  have y0 : w.cell? ⟨g, k * 3, none⟩ = some (.int .i64 sd) := (own_cells hO _ _ a0).1
  have y1 : w.cell? ⟨g, k * 3 + 1, none⟩ = some (.bool false) := (own_cells hO _ _ a1).1
  have y2 : w.cell? ⟨g, k * 3 + 2, none⟩ = some (.string mr) := (own_cells hO _ _ a2).1
  have HDR := Lib.hid hdr
  clear a0 a1 a2 hel hdr
  have HL := Lib.hid (fun j (hj : j < st.loose.length) => by
    obtain ⟨a0, a1, a2⟩ := cellsOf_get st.loose j hj
    exact (⟨(own_cells hO _ _ a0).1, (own_cells hO _ _ a1).1, (own_cells hO _ _ a2).1⟩ : w.cell? ⟨g, j * 3, none⟩ = some (.int .i64 st.loose[j].side) ∧ w.cell? ⟨g, j * 3 + 1, none⟩ = some (.bool st.loose[j].wipe) ∧ w.cell? ⟨g, j * 3 + 2, none⟩ = some (.string st.loose[j].more)))
  have hnew : Hid (∀ o1 w1, Below w.heap.size w w1 → ∀ j u, [Value.string st.s0, .string st.s1][j]? = some u → (w1.alloc o1).cell? ((⟨sg, 0, none⟩ : Addr).add j) = some u) := by
    intro o1 w1 hw1 j u hu
    have hbb := hw1.alloc hw1.size o1
    match j, hu with
    | 0, hu => simp at hu; subst hu; exact (hbb.cell (p := ⟨sg, 0, none⟩) hsgl).trans x0
    | 1, hu => simp at hu; subst hu; exact (hbb.cell (p := ⟨sg, 1, none⟩) hsgl).trans x1
    | j + 2, hu => simp at hu
  obtain ⟨i0, hi, hz0, hz1, hz2⟩ := info_parts info9
  have Hi := Lib.hid hi
  have Hz0 := Lib.hid hz0
  have Hz1 := Lib.hid hz1
  have Hz2 := Lib.hid hz2
  have HNL := Lib.hid hnl
  have HP0 := Lib.hid hp
  have HB := Lib.hid hB
  skip
  clear hi hz0 hz1 hz2 hB hO hSB hs0 hs1 hT hnl hp x0 x1 
  go_enter Try.func24, Try.ntmps24
  go_wp2_with fail
  refine region_lay (by kernel_rfl) (by kernel_rfl) ?_
  repeat (go_big_quiet_step (fail))
  refine wpQuiet_nil ?_
  rintro _ ⟨zq, rfl⟩
  have hx1 := (((Below.refl w.heap.size w).alloc (Nat.le_refl _) (Obj.cells #[Value.int IntKind.i64 room, Value.int IntKind.i64 crash, Value.int IntKind.i64 keep, Value.int IntKind.i64 torn] 25))).trans ((World.lay_below _ zq).mono (by simp))
  have hpl := blk_below (blk_new w (Obj.cells #[Value.int IntKind.i64 room, Value.int IntKind.i64 crash, Value.int IntKind.i64 keep, Value.int IntKind.i64 torn] 25)) (World.lay_below _ zq)
  generalize (w.alloc (Obj.cells #[Value.int IntKind.i64 room, Value.int IntKind.i64 crash, Value.int IntKind.i64 keep, Value.int IntKind.i64 torn] 25)).lay zq = w1 at *
  have r0' := (hx1.cell (p := ⟨b, 0, none⟩) hb).trans r0
  have hb1 : b < w1.heap.size := Nat.lt_of_lt_of_le hb hx1.size
  have hnew1 := Lib.hid (fun o1 => hnew.out o1 w1 hx1)
  have HPL := Lib.hid hpl
  have hz1 := blk_lt hpl
  clear hpl r0 hnew
  go_wp2_with (at_builtin; refine wpList_append_grows _ rfl (.tmp 18) (.tmp 22) 38 rfl 9 i0 (.string ⟨#[]⟩) 1 16 Try.underlying38 Hi.out Hz0.out Hz1.out Hz2.out rfl (by decide) (some ⟨w1.heap.size, 0, none⟩) 0 0 [] rfl (fun h => by cases h) rfl (by intro _ _ _ _ h; simp at h) ⟨sg, 0, none⟩ 2 sc [.string st.s0, .string st.s1] rfl rfl (hnew1.out _) (by intro u hu; simp at hu; rcases hu with rfl | rfl <;> rfl) (by omega) (by unfold maxLen; omega) (by omega) ?grow)
  case grow =>
    intro v2 w2 hown hgr
    have hx2 : Below w.heap.size w w2 := (hx1.alloc hx1.size (Obj.cells #[] 9)).grown hgr (by have := hx1.size; simp; omega) (fun _ h => by cases h)
    have hpl2 := blk_grown (blk_alloc HPL.out (Obj.cells #[] 9)) hgr (by simp)
    obtain ⟨g2, cap2, cur2, rfl, hg2, hB2, h20, h21⟩ := row2 hown
    have hP2 : PairAt w2 base (.slice (some ⟨g2, 0, none⟩) 2 cap2) st.s0 st.s1 := ⟨g2, cap2, cur2, rfl, by have := hx1.size; first | omega | (simp at hg2; omega), hB2, h20, h21⟩
    have HPL2 := Lib.hid hpl2
    clear hown hgr hB2 h20 h21 hpl2 r0'
    go_wp2_with fail
    skip
    go_loopw [5, 6] (fun lv iv wr => ∃ (i : Nat), i ≤ k ∧ iv = .int .i64 i ∧ PairAt wr base lv (nowF (st.s0, st.s1) (st.loose.take i)).1 (nowF (st.s0, st.s1) (st.loose.take i)).2 ∧ Below w.heap.size w wr ∧ wr.heap[w.heap.size]? = some (Obj.cells #[Value.int IntKind.i64 room, Value.int IntKind.i64 crash, Value.int IntKind.i64 keep, Value.int IntKind.i64 torn] 25)) (fun _ iv _ => k - (intOf iv).toNat)
    case atStart => exact ⟨0, by omega, rfl, hP2, hx2, HPL2.out⟩
    case round =>
      obtain ⟨i, hik, rfl, hPi, hxi, hpli⟩ := hrel
      have r1i := (hxi.cell (p := ⟨b, 1, none⟩) hb).trans r1
      clear hP2 hx2
      have HPLi := Lib.hid hpli
      have hzi := blk_lt hpli
      clear hpli
      by_cases hlt : i < k
      · have hil : i < st.loose.length := by have := HNL.out; omega
        have hin : i < n := by omega
        obtain ⟨c0, c1, c2⟩ := HL.out i hil
        have d0 := (hxi.cell (p := ⟨g, i * 3, none⟩) hgl).trans c0
        have d1 := (hxi.cell (p := ⟨g, i * 3 + 1, none⟩) hgl).trans c1
        have d2 := (hxi.cell (p := ⟨g, i * 3 + 2, none⟩) hgl).trans c2
        have hsdi := hok.side st.loose[i] (List.getElem_mem hil)
        have hbri := Lib.hid (hbare st.loose[i] (List.getElem_mem hil))
        have hs1i := nowF_size (st.loose.take i) (st.s0, st.s1)
        have hs2i := mores_take st.loose i hil
        have hs3i := hok.size
        have HSi := Lib.hid (nowF_snoc (st.s0, st.s1) st.loose i hil)
        clear c0 c1 c2
        generalize st.loose[i] = c at *
        obtain ⟨sdi, wpi, mri⟩ := c
        generalize nowF (st.s0, st.s1) (st.loose.take i) = pq at *
        obtain ⟨p, q⟩ := pq
        go_wp2_with fail
        refine (done_any base _ p q sdi wpi mri _ hPi hsdi.1 hsdi.2 hbri.out (by omega)).mono ?_
        rintro e w5 ⟨v5, rfl, hP5, hb5⟩
        have hP5' := hP5.mono (Nat.le_trans hbs hxi.size)
        have hx5 := hxi.trans (hb5.mono hxi.size)
        have hpl5 := Lib.hid (blk_below HPLi.out hb5)
        clear hP5 hb5
        go_wp2
        go_roundw
        case rel => exact ⟨i + 1, by omega, by go_num, by rw [HSi.out]; exact hP5', hx5, hpl5.out⟩
        case measure => simp [intOf]; omega
      · obtain rfl : i = k := by omega
        have y0' := (hxi.cell (p := ⟨g, i * 3, none⟩) hgl).trans y0
        have y1' := (hxi.cell (p := ⟨g, i * 3 + 1, none⟩) hgl).trans y1
        have y2' := (hxi.cell (p := ⟨g, i * 3 + 2, none⟩) hgl).trans y2
        have ht0 := partF_range torn mr.size
        obtain ⟨tk, htk⟩ : ∃ tk : Nat, partF torn mr.size = tk := ⟨(partF torn mr.size).toNat, by omega⟩
        have htl : tk ≤ mr.size := by omega
        have htl2 : (tk : Int) ≤ mr.size := by omega
        have hmt : mxz torn % ((mr.size : Int) + 1) = (tk : Int) := by rw [mxz_part, htk]
        have hmz2 := mxz_nonneg torn
        have HTK := Lib.hid htk
        have hdr0 : tornL st.loose i torn = st.loose.take i ++ [(⟨sd, false, mr.extract 0 tk⟩ : Chg)] := by
          unfold tornL
          rw [HDR.out]
          simp only [Bool.false_eq_true, if_false, cutMore, HTK.out, Int.toNat_natCast]
        have HD0 := Lib.hid hdr0
        clear htk ht0 hdr0 y0 y1 y2
        go_wp2_with fail
        have hx5 := hxi.alloc hxi.size (Obj.cells #[Value.int IntKind.i64 sd, Value.bool false, Value.string mr] 68)
        have hC5 := blk_new wr (Obj.cells #[Value.int IntKind.i64 sd, Value.bool false, Value.string mr] 68)
        have hpl5 := blk_alloc HPLi.out (Obj.cells #[Value.int IntKind.i64 sd, Value.bool false, Value.string mr] 68)
        have hP5 := hPi.below ((Below.refl wr.heap.size wr).alloc (Nat.le_refl _) (Obj.cells #[Value.int IntKind.i64 sd, Value.bool false, Value.string mr] 68))
        generalize wr.alloc (Obj.cells #[Value.int IntKind.i64 sd, Value.bool false, Value.string mr] 68) = w5 at *
        have q2 : w5.cell? ⟨wr.heap.size, 2, none⟩ = some (.string mr) := blk_cell hC5 2
        have l3 : w5.cell? ⟨w.heap.size, 3, none⟩ = some (.int .i64 torn) := blk_cell hpl5 3
        have hzc := blk_lt hC5
        have hzp := blk_lt hpl5
        have HC5 := Lib.hid hC5
        have HPL5 := Lib.hid hpl5
        clear hC5 hpl5 hPi
        refine region_lay_tail 12 (by kernel_rfl) (by kernel_rfl) ?_
        simp only [List.take_succ_cons, List.take_zero, List.drop_succ_cons, List.drop_zero]
        repeat (go_big_quiet_step (fail))
        refine wpQuiet_nil ?_
        rintro _ ⟨zq5, rfl⟩
        have hb6 := w5.lay_below zq5
        have hx6 := hx5.trans (hb6.mono hx5.size)
        have hC6 := blk_below HC5.out hb6
        have hpl6 := blk_below HPL5.out hb6
        have hP6 := hP5.below hb6
        generalize w5.lay zq5 = w6 at *
        have q0' : w6.cell? ⟨wr.heap.size, 0, none⟩ = some (.int .i64 sd) := blk_cell hC6 0
        have q1' : w6.cell? ⟨wr.heap.size, 1, none⟩ = some (.bool false) := blk_cell hC6 1
        have q2' : w6.cell? ⟨wr.heap.size, 2, none⟩ = some (.string mr) := blk_cell hC6 2
        have ff2 := blk_frozen hC6 2
        have HC6 := Lib.hid hC6
        have HPL6 := Lib.hid hpl6
        clear hC6 hpl6 q2 l3 hP5 hx5
        have hwsz := hxi.size
        have hx7 := hx6.setCell (p := ⟨wr.heap.size, 2, none⟩) hwsz (.string (mr.extract 0 tk))
        have hC7 := blk_set HC6.out 2 (.string (mr.extract 0 tk))
        have hpl7 := blk_far HPL6.out (p := ⟨wr.heap.size, 2, none⟩) (by simp; omega) (.string (mr.extract 0 tk))
        have hP7 : PairAt (w6.setCell ⟨wr.heap.size, 2, none⟩ (.string (mr.extract 0 tk))) base u5 (nowF (st.s0, st.s1) (st.loose.take i)).1 (nowF (st.s0, st.s1) (st.loose.take i)).2 :=
          hP6.fr ((Fr.refl w6 wr.heap.size none).set 2 _) HC6.out (by decide) (fun k h => by cases h)
        go_wp2_with fail
        generalize w6.setCell ⟨wr.heap.size, 2, none⟩ (.string (mr.extract 0 tk)) = w7 at *
        generalize hct : mr.extract 0 tk = ct at *
        have hcts : ct.size ≤ mr.size := by rw [← hct]; exact extract_size mr tk
        have HCT := Lib.hid hct
        clear hct
        have q0 : w7.cell? ⟨wr.heap.size, 0, none⟩ = some (.int .i64 sd) := blk_cell hC7 0
        have q1 : w7.cell? ⟨wr.heap.size, 1, none⟩ = some (.bool false) := blk_cell hC7 1
        have q2 : w7.cell? ⟨wr.heap.size, 2, none⟩ = some (.string ct) := blk_cell hC7 2
        have hs1i := nowF_size (st.loose.take i) (st.s0, st.s1)
        have hs3i := hok.size
        have HPL7 := Lib.hid hpl7
        have HSA := Lib.hid (nowF_app (st.s0, st.s1) (st.loose.take i) ⟨sd, false, ct⟩)
        clear hC7 hpl7 q0' q1' q2' ff2 hP6 hx6
        generalize hpq : nowF (st.s0, st.s1) (st.loose.take i) = pq at *
        have HPQ := Lib.hid hpq
        clear hpq
        obtain ⟨p, q⟩ := pq
        go_wp2_with fail
        refine (done_any base _ p q sd false ct _ hP7 hsd.1 hsd.2 (fun h => by cases h) (by omega)).mono ?_
        rintro e w9 ⟨v9, rfl, hP9m, hb9⟩
        have hP9 : PairAt w9 base v9 (nowF (st.s0, st.s1) (st.loose.take i ++ [(⟨sd, false, ct⟩ : Chg)])).1 (nowF (st.s0, st.s1) (st.loose.take i ++ [(⟨sd, false, ct⟩ : Chg)])).2 := by
          rw [HSA.out]
          exact hP9m.mono (Nat.le_trans hbs hx7.size)
        have hx9 := hx7.trans (hb9.mono hx7.size)
        have hpl9 := blk_below HPL7.out hb9
        obtain ⟨vg, vc, vcur, hv9, hvg, hVB, hv0, hv1⟩ := hP9
        rw [hv9]
        clear hv9 hP9m hP7 hb9 hx7
        have hT9 : PairAt w9 base (.slice (some ⟨vg, 0, none⟩) 2 vc) (nowF (st.s0, st.s1) (st.loose.take i ++ [(⟨sd, false, ct⟩ : Chg)])).1 (nowF (st.s0, st.s1) (st.loose.take i ++ [(⟨sd, false, ct⟩ : Chg)])).2 := ⟨vg, vc, vcur, rfl, hvg, hVB, hv0, hv1⟩
        have hB9 := blk_below HB.out hx9
        have m0 : w9.cell? ⟨b, 0, none⟩ = some (.slice (some ⟨sg, 0, none⟩) 2 sc) := blk_cell hB9 0
        have m1 : w9.cell? ⟨b, 1, none⟩ = some (.slice (some ⟨g, 0, none⟩) n cap) := blk_cell hB9 1
        have m2 : w9.cell? ⟨b, 2, none⟩ = some (.int .i64 st.room) := blk_cell hB9 2
        have m3 : w9.cell? ⟨b, 3, none⟩ = some (.int .i64 st.crash) := blk_cell hB9 3
        have m4 : w9.cell? ⟨b, 4, none⟩ = some (.int .i64 st.keep) := blk_cell hB9 4
        have m5 : w9.cell? ⟨b, 5, none⟩ = some (.int .i64 st.torn) := blk_cell hB9 5
        have m6 : w9.cell? ⟨b, 6, none⟩ = some (.int .i64 st.calls) := blk_cell hB9 6
        have m7 : w9.cell? ⟨b, 7, none⟩ = some (.bool st.down) := blk_cell hB9 7
        have z0 := blk_frozen hB9 0
        have z1 := blk_frozen hB9 1
        have z2 := blk_frozen hB9 2
        have z3 := blk_frozen hB9 3
        have z4 := blk_frozen hB9 4
        have z5 := blk_frozen hB9 5
        have z6 := blk_frozen hB9 6
        have z7 := blk_frozen hB9 7
        have l0 : w9.cell? ⟨w.heap.size, 0, none⟩ = some (.int .i64 room) := blk_cell hpl9 0
        have l1 : w9.cell? ⟨w.heap.size, 1, none⟩ = some (.int .i64 crash) := blk_cell hpl9 1
        have l2 : w9.cell? ⟨w.heap.size, 2, none⟩ = some (.int .i64 keep) := blk_cell hpl9 2
        have l3 : w9.cell? ⟨w.heap.size, 3, none⟩ = some (.int .i64 torn) := blk_cell hpl9 3
        have HB9 := Lib.hid hB9
        have HT9 := Lib.hid hT9
        clear hB9 hVB hT9 hpl9 hv0 hv1
        go_wp2
        go_end0
        have hfall : fallF st room crash keep torn = { s0 := (nowF (st.s0, st.s1) (st.loose.take i ++ [(⟨sd, false, ct⟩ : Chg)])).1, s1 := (nowF (st.s0, st.s1) (st.loose.take i ++ [(⟨sd, false, ct⟩ : Chg)])).2, loose := [], room := room, crash := crash, keep := keep, torn := torn, calls := 0, down := false } := by
          unfold fallF
          have e1 : (partF keep st.loose.length).toNat = i := by rw [← HNL.out, HP0.out]; rfl
          rw [e1, HD0.out]
        rw [hfall]
        have hF9 := ((((((((Fr.of_below hx9 b (some g)).set 0 (.slice (some ⟨vg, 0, none⟩) 2 vc)).set 1 (.slice none 0 0)).set 2 (.int .i64 room)).set 3 (.int .i64 crash)).set 4 (.int .i64 keep)).set 5 (.int .i64 torn)).set 6 (.int .i64 0)).set 7 (.bool false)
        have hE9 := ref_end HB9.out (nowF (st.s0, st.s1) (st.loose.take i ++ [(⟨sd, false, ct⟩ : Chg)])).1 (nowF (st.s0, st.s1) (st.loose.take i ++ [(⟨sd, false, ct⟩ : Chg)])).2 room crash keep torn (.slice (some ⟨vg, 0, none⟩) 2 vc)
        have hQ9 := HT9.out.fr (((((((((Fr.refl w9 b none).set 0 (.slice (some ⟨vg, 0, none⟩) 2 vc)).set 1 (.slice none 0 0)).set 2 (.int .i64 room)).set 3 (.int .i64 crash)).set 4 (.int .i64 keep)).set 5 (.int .i64 torn)).set 6 (.int .i64 0)).set 7 (.bool false)) HB9.out (by decide) (fun k h => by cases h)
        generalize (((((((((w9.setCell ⟨b, 0, none⟩ (.slice (some ⟨vg, 0, none⟩) 2 vc)).setCell ⟨b, 1, none⟩ (.slice none 0 0)).setCell ⟨b, 2, none⟩ (.int .i64 room)).setCell ⟨b, 3, none⟩ (.int .i64 crash)).setCell ⟨b, 4, none⟩ (.int .i64 keep)).setCell ⟨b, 5, none⟩ (.int .i64 torn)).setCell ⟨b, 6, none⟩ (.int .i64 0)).setCell ⟨b, 7, none⟩ (.bool false))) = w10 at *
        exact ⟨rfl, none, ⟨.slice (some ⟨vg, 0, none⟩) 2 vc, .slice none 0 0, rfl, hbase, hE9, hQ9, own_nil _ _ _ _⟩, (fun _ h => by cases h), hF9⟩

end Go.Proofs.Ytallocndghjoeaa
