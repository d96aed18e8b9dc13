/- Walks of the reference's tape: a fall, one of its ways. -/
import Derived.Test.YtallocndghjoeaaRf
namespace Go.Proofs.Ytallocndghjoeaa
open Go.RowKit Go.Proofs.YtallocndghjoeaaW.PrintWords
set_option linter.unusedVariables false
attribute [local go_sem] mx_zero mx_two

set_option maxRecDepth 100000 in
set_option maxHeartbeats 3200000 in
theorem rfall_wipe (base b : Nat) (st : TapeSt) (room crash keep torn : Int) (w : World) (g cap k n : Nat) (hkn : k < n) (hc : n ≤ cap) (hw1 : w.cell? ⟨g, k * 3 + 1, none⟩ = some (.bool true))
    (hT : RefAt w base b (some g) st) (sv : Value) (hB : w.heap[b]? = some (.cells (refCells sv (.slice (some ⟨g, 0, none⟩) n cap) st) 52 (0, 0))) (hP : PairAt w base sv st.s0 st.s1) (hO : w.ownsRow base 68 3 (.slice (some ⟨g, 0, none⟩) n cap) n (cellsOf st.loose)) (hok : st.Ok) (hbare : Bare st.loose) (hbs : base ≤ w.heap.size) (hbase : base ≤ b)
    (hp : partF keep (n : Nat) = (k : Nat)) (htn : tornL st.loose k torn = st.loose.take k) (hnl : n = st.loose.length) :
    Calls Try.prog 24 #[.pointer (some ⟨b, 0, none⟩), .agg #[.int .i64 room, .int .i64 crash, .int .i64 keep, .int .i64 torn]] w
      fun e w' => e = .returned (.tuple #[]) ∧ ∃ row', RefAt w' base b row' (fallF st room crash keep torn) ∧ RowOk w (some g) row' ∧ Fr w w' b (some g) := by
  obtain ⟨sg, sc, scur, rfl, hsg, hSB, hs0, hs1⟩ := hP
  have hmz := mxz_nonneg keep
  have hmk0 : mxz keep % ((n : Int) + 1) = ((k : Nat) : Int) := (mxz_part keep _).trans hp
  have r0 : w.cell? ⟨b, 0, none⟩ = some (.slice (some ⟨sg, 0, none⟩) 2 sc) := blk_cell hB 0
  have r1 : w.cell? ⟨b, 1, none⟩ = some (.slice (some ⟨g, 0, none⟩) n cap) := blk_cell hB 1
  have hb := blk_lt hB
  have hsgl := blk_lt hSB
  have hmany := hok.many
  have x0 : w.cell? ⟨sg, 0, none⟩ = some (.string st.s0) := (blk_cell hSB 0).trans hs0
  have x1 : w.cell? ⟨sg, 1, none⟩ = some (.string st.s1) := (blk_cell hSB 1).trans hs1
  have hn1 : n ≤ 1000000000 := by omega
  have hgl : g < w.heap.size := own_lt hO g rfl
  have HL := Lib.hid (fun j (hj : j < st.loose.length) => by
    obtain ⟨a0, a1, a2⟩ := cellsOf_get st.loose j hj
    exact (⟨(own_cells hO _ _ a0).1, (own_cells hO _ _ a1).1, (own_cells hO _ _ a2).1⟩ : w.cell? ⟨g, j * 3, none⟩ = some (.int .i64 st.loose[j].side) ∧ w.cell? ⟨g, j * 3 + 1, none⟩ = some (.bool st.loose[j].wipe) ∧ w.cell? ⟨g, j * 3 + 2, none⟩ = some (.string st.loose[j].more)))
  have hnew : Hid (∀ o1 w1, Below w.heap.size w w1 → ∀ j u, [Value.string st.s0, .string st.s1][j]? = some u → (w1.alloc o1).cell? ((⟨sg, 0, none⟩ : Addr).add j) = some u) := by
    intro o1 w1 hw1 j u hu
    have hbb := hw1.alloc hw1.size o1
    match j, hu with
    | 0, hu => simp at hu; subst hu; exact (hbb.cell (p := ⟨sg, 0, none⟩) hsgl).trans x0
    | 1, hu => simp at hu; subst hu; exact (hbb.cell (p := ⟨sg, 1, none⟩) hsgl).trans x1
    | j + 2, hu => simp at hu
  obtain ⟨i0, hi, hz0, hz1, hz2⟩ := info_parts info9
  have Hi := Lib.hid hi
  have Hz0 := Lib.hid hz0
  have Hz1 := Lib.hid hz1
  have Hz2 := Lib.hid hz2
  have HNL := Lib.hid hnl
  have HP0 := Lib.hid hp
  have HB := Lib.hid hB
  have HTN := Lib.hid htn
  clear hi hz0 hz1 hz2 hB hO hSB hs0 hs1 hT hnl hp x0 x1 htn
  go_enter Try.func24, Try.ntmps24
  go_wp2_with fail
  refine region_lay (by kernel_rfl) (by kernel_rfl) ?_
  repeat (go_big_quiet_step (fail))
  refine wpQuiet_nil ?_
  rintro _ ⟨zq, rfl⟩
  have hx1 := (((Below.refl w.heap.size w).alloc (Nat.le_refl _) (Obj.cells #[Value.int IntKind.i64 room, Value.int IntKind.i64 crash, Value.int IntKind.i64 keep, Value.int IntKind.i64 torn] 25))).trans ((World.lay_below _ zq).mono (by simp))
  have hpl := blk_below (blk_new w (Obj.cells #[Value.int IntKind.i64 room, Value.int IntKind.i64 crash, Value.int IntKind.i64 keep, Value.int IntKind.i64 torn] 25)) (World.lay_below _ zq)
  generalize (w.alloc (Obj.cells #[Value.int IntKind.i64 room, Value.int IntKind.i64 crash, Value.int IntKind.i64 keep, Value.int IntKind.i64 torn] 25)).lay zq = w1 at *
  have r0' := (hx1.cell (p := ⟨b, 0, none⟩) hb).trans r0
  have hb1 : b < w1.heap.size := Nat.lt_of_lt_of_le hb hx1.size
  have hnew1 := Lib.hid (fun o1 => hnew.out o1 w1 hx1)
  have HPL := Lib.hid hpl
  have hz1 := blk_lt hpl
  clear hpl r0 hnew
  go_wp2_with (at_builtin; refine wpList_append_grows _ rfl (.tmp 18) (.tmp 22) 38 rfl 9 i0 (.string ⟨#[]⟩) 1 16 Try.underlying38 Hi.out Hz0.out Hz1.out Hz2.out rfl (by decide) (some ⟨w1.heap.size, 0, none⟩) 0 0 [] rfl (fun h => by cases h) rfl (by intro _ _ _ _ h; simp at h) ⟨sg, 0, none⟩ 2 sc [.string st.s0, .string st.s1] rfl rfl (hnew1.out _) (by intro u hu; simp at hu; rcases hu with rfl | rfl <;> rfl) (by omega) (by unfold maxLen; omega) (by omega) ?grow)
  case grow =>
    intro v2 w2 hown hgr
    have hx2 : Below w.heap.size w w2 := (hx1.alloc hx1.size (Obj.cells #[] 9)).grown hgr (by have := hx1.size; simp; omega) (fun _ h => by cases h)
    have hpl2 := blk_grown (blk_alloc HPL.out (Obj.cells #[] 9)) hgr (by simp)
    obtain ⟨g2, cap2, cur2, rfl, hg2, hB2, h20, h21⟩ := row2 hown
    have hP2 : PairAt w2 base (.slice (some ⟨g2, 0, none⟩) 2 cap2) st.s0 st.s1 := ⟨g2, cap2, cur2, rfl, by have := hx1.size; first | omega | (simp at hg2; omega), hB2, h20, h21⟩
    have HPL2 := Lib.hid hpl2
    clear hown hgr hB2 h20 h21 hpl2 r0'
    go_wp2_with fail
    skip
    go_loopw [5, 6] (fun lv iv wr => ∃ (i : Nat), i ≤ k ∧ iv = .int .i64 i ∧ PairAt wr base lv (nowF (st.s0, st.s1) (st.loose.take i)).1 (nowF (st.s0, st.s1) (st.loose.take i)).2 ∧ Below w.heap.size w wr ∧ wr.heap[w.heap.size]? = some (Obj.cells #[Value.int IntKind.i64 room, Value.int IntKind.i64 crash, Value.int IntKind.i64 keep, Value.int IntKind.i64 torn] 25)) (fun _ iv _ => k - (intOf iv).toNat)
    case atStart => exact ⟨0, by omega, rfl, hP2, hx2, HPL2.out⟩
    case round =>
      obtain ⟨i, hik, rfl, hPi, hxi, hpli⟩ := hrel
      have r1i := (hxi.cell (p := ⟨b, 1, none⟩) hb).trans r1
      clear hP2 hx2
      have HPLi := Lib.hid hpli
      have hzi := blk_lt hpli
      clear hpli
      by_cases hlt : i < k
      · have hil : i < st.loose.length := by have := HNL.out; omega
        have hin : i < n := by omega
        obtain ⟨c0, c1, c2⟩ := HL.out i hil
        have d0 := (hxi.cell (p := ⟨g, i * 3, none⟩) hgl).trans c0
        have d1 := (hxi.cell (p := ⟨g, i * 3 + 1, none⟩) hgl).trans c1
        have d2 := (hxi.cell (p := ⟨g, i * 3 + 2, none⟩) hgl).trans c2
        have hsdi := hok.side st.loose[i] (List.getElem_mem hil)
        have hbri := Lib.hid (hbare st.loose[i] (List.getElem_mem hil))
        have hs1i := nowF_size (st.loose.take i) (st.s0, st.s1)
        have hs2i := mores_take st.loose i hil
        have hs3i := hok.size
        have HSi := Lib.hid (nowF_snoc (st.s0, st.s1) st.loose i hil)
        clear c0 c1 c2
        generalize st.loose[i] = c at *
        obtain ⟨sdi, wpi, mri⟩ := c
        generalize nowF (st.s0, st.s1) (st.loose.take i) = pq at *
        obtain ⟨p, q⟩ := pq
        go_wp2_with fail
        refine (done_any base _ p q sdi wpi mri _ hPi hsdi.1 hsdi.2 hbri.out (by omega)).mono ?_
        rintro e w5 ⟨v5, rfl, hP5, hb5⟩
        have hP5' := hP5.mono (Nat.le_trans hbs hxi.size)
        have hx5 := hxi.trans (hb5.mono hxi.size)
        have hpl5 := Lib.hid (blk_below HPLi.out hb5)
        clear hP5 hb5
        go_wp2
        go_roundw
        case rel => exact ⟨i + 1, by omega, by go_num, by rw [HSi.out]; exact hP5', hx5, hpl5.out⟩
        case measure => simp [intOf]; omega
      · obtain rfl : i = k := by omega
        have hw1' := (hxi.cell (p := ⟨g, i * 3 + 1, none⟩) hgl).trans hw1
        clear hw1
        obtain ⟨vg, vc, vcur, hv9, hvg, hVB, hv0, hv1⟩ := hPi
        rw [hv9]
        clear hv9
        have hx9 := hxi
        have hpl9 := HPLi.out
        clear hxi
        generalize wr = w9 at *
        have hT9 : PairAt w9 base (.slice (some ⟨vg, 0, none⟩) 2 vc) (nowF (st.s0, st.s1) (st.loose.take i)).1 (nowF (st.s0, st.s1) (st.loose.take i)).2 := ⟨vg, vc, vcur, rfl, hvg, hVB, hv0, hv1⟩
        have hB9 := blk_below HB.out hx9
        have m0 : w9.cell? ⟨b, 0, none⟩ = some (.slice (some ⟨sg, 0, none⟩) 2 sc) := blk_cell hB9 0
        have m1 : w9.cell? ⟨b, 1, none⟩ = some (.slice (some ⟨g, 0, none⟩) n cap) := blk_cell hB9 1
        have m2 : w9.cell? ⟨b, 2, none⟩ = some (.int .i64 st.room) := blk_cell hB9 2
        have m3 : w9.cell? ⟨b, 3, none⟩ = some (.int .i64 st.crash) := blk_cell hB9 3
        have m4 : w9.cell? ⟨b, 4, none⟩ = some (.int .i64 st.keep) := blk_cell hB9 4
        have m5 : w9.cell? ⟨b, 5, none⟩ = some (.int .i64 st.torn) := blk_cell hB9 5
        have m6 : w9.cell? ⟨b, 6, none⟩ = some (.int .i64 st.calls) := blk_cell hB9 6
        have m7 : w9.cell? ⟨b, 7, none⟩ = some (.bool st.down) := blk_cell hB9 7
        have z0 := blk_frozen hB9 0
        have z1 := blk_frozen hB9 1
        have z2 := blk_frozen hB9 2
        have z3 := blk_frozen hB9 3
        have z4 := blk_frozen hB9 4
        have z5 := blk_frozen hB9 5
        have z6 := blk_frozen hB9 6
        have z7 := blk_frozen hB9 7
        have l0 : w9.cell? ⟨w.heap.size, 0, none⟩ = some (.int .i64 room) := blk_cell hpl9 0
        have l1 : w9.cell? ⟨w.heap.size, 1, none⟩ = some (.int .i64 crash) := blk_cell hpl9 1
        have l2 : w9.cell? ⟨w.heap.size, 2, none⟩ = some (.int .i64 keep) := blk_cell hpl9 2
        have l3 : w9.cell? ⟨w.heap.size, 3, none⟩ = some (.int .i64 torn) := blk_cell hpl9 3
        have HB9 := Lib.hid hB9
        have HT9 := Lib.hid hT9
        clear hB9 hVB hT9 hpl9 hv0 hv1
        go_wp2
        go_end0
        have hfall : fallF st room crash keep torn = { s0 := (nowF (st.s0, st.s1) (st.loose.take i)).1, s1 := (nowF (st.s0, st.s1) (st.loose.take i)).2, loose := [], room := room, crash := crash, keep := keep, torn := torn, calls := 0, down := false } := by
          unfold fallF
          have e1 : (partF keep st.loose.length).toNat = i := by rw [← HNL.out, HP0.out]; rfl
          rw [e1, HTN.out]
        rw [hfall]
        have hF9 := ((((((((Fr.of_below hx9 b (some g)).set 0 (.slice (some ⟨vg, 0, none⟩) 2 vc)).set 1 (.slice none 0 0)).set 2 (.int .i64 room)).set 3 (.int .i64 crash)).set 4 (.int .i64 keep)).set 5 (.int .i64 torn)).set 6 (.int .i64 0)).set 7 (.bool false)
        have hE9 := ref_end HB9.out (nowF (st.s0, st.s1) (st.loose.take i)).1 (nowF (st.s0, st.s1) (st.loose.take i)).2 room crash keep torn (.slice (some ⟨vg, 0, none⟩) 2 vc)
        have hQ9 := HT9.out.fr (((((((((Fr.refl w9 b none).set 0 (.slice (some ⟨vg, 0, none⟩) 2 vc)).set 1 (.slice none 0 0)).set 2 (.int .i64 room)).set 3 (.int .i64 crash)).set 4 (.int .i64 keep)).set 5 (.int .i64 torn)).set 6 (.int .i64 0)).set 7 (.bool false)) HB9.out (by decide) (fun k h => by cases h)
        generalize (((((((((w9.setCell ⟨b, 0, none⟩ (.slice (some ⟨vg, 0, none⟩) 2 vc)).setCell ⟨b, 1, none⟩ (.slice none 0 0)).setCell ⟨b, 2, none⟩ (.int .i64 room)).setCell ⟨b, 3, none⟩ (.int .i64 crash)).setCell ⟨b, 4, none⟩ (.int .i64 keep)).setCell ⟨b, 5, none⟩ (.int .i64 torn)).setCell ⟨b, 6, none⟩ (.int .i64 0)).setCell ⟨b, 7, none⟩ (.bool false))) = w10 at *
        exact ⟨rfl, none, ⟨.slice (some ⟨vg, 0, none⟩) 2 vc, .slice none 0 0, rfl, hbase, hE9, hQ9, own_nil _ _ _ _⟩, (fun _ h => by cases h), hF9⟩

end Go.Proofs.Ytallocndghjoeaa
