/- Whatever is added, wiped, sealed, and wherever it falls: a tape answers as the reference: the walk of the statement. -/
import Derived.Test.YtallocndghjoeaaRh
import Derived.Deep.RegionHeld3
namespace Go.Proofs.Ytallocndghjoeaa
open Go.RowKit Go.Proofs.YtallocndghjoeaaW.PrintWords
set_option linter.unusedVariables false

theorem TapeAt.lower {w : World} {base base' b : Nat} {row : Option Nat} {st : TapeSt} (hT : TapeAt w base b row st) (h : base' ≤ base) : TapeAt w base' b row st := by
  obtain ⟨lv, h1, h2, h3, h4⟩ := hT
  exact ⟨lv, h1, Nat.le_trans h h2, h3, own_weaken h4 h⟩
theorem RefAt.lower {w : World} {base base' b : Nat} {row : Option Nat} {st : TapeSt} (hT : RefAt w base b row st) (h : base' ≤ base) : RefAt w base' b row st := by
  obtain ⟨sv, lv, h1, h2, h3, h4, h5⟩ := hT
  exact ⟨sv, lv, h1, Nat.le_trans h h2, h3, h4.mono h, own_weaken h5 h⟩

set_option maxRecDepth 100000 in
set_option maxHeartbeats 1600000 in
theorem runs_many (room crash keep torn : Int) (A : Option Addr) (n c : Nat) (w : World) (hn : 50 < n) :
    Calls Try.prog 6 #[.agg #[.int .i64 room, .int .i64 crash, .int .i64 keep, .int .i64 torn], .slice A n c] w fun e w' => e = .returned (.bool true) ∧ Below w.heap.size w w' := by
  go_enter Try.func6, Try.ntmps6
  go_wp2_with fail
  refine (awake_any _).mono ?_
  rintro e w1 ⟨rfl, hb⟩
  have hbb := ((Below.refl w.heap.size w).alloc (Nat.le_refl _) (Obj.cells #[Value.int IntKind.i64 room, Value.int IntKind.i64 crash, Value.int IntKind.i64 keep, Value.int IntKind.i64 torn] 25)).trans (hb.mono (by simp))
  go_wp2
  go_ret
  exact ⟨rfl, hbb⟩

set_option maxRecDepth 100000 in
set_option maxHeartbeats 100000000 in
theorem runs_some (room crash keep torn : Int) (ab ao c : Nat) (l : List Ac) (w : World) (hl : l.length ≤ 50) (hab : ab < w.heap.size) (hac0 : ∀ k (h : k < l.length), AcAt w ab (ao + k * 7) l[k]) :
    Calls Try.prog 6 #[.agg #[.int .i64 room, .int .i64 crash, .int .i64 keep, .int .i64 torn], .slice (some ⟨ab, ao, none⟩) l.length c] w fun e w' => e = .returned (.bool true) ∧ Below w.heap.size w w' := by
  have HAC := Lib.hid hac0
  clear hac0
  have hPw := (Below.refl w.heap.size w).alloc (Nat.le_refl _) (Obj.cells #[Value.int IntKind.i64 room, Value.int IntKind.i64 crash, Value.int IntKind.i64 keep, Value.int IntKind.i64 torn] 25)
  have hPb := blk_new w (Obj.cells #[Value.int IntKind.i64 room, Value.int IntKind.i64 crash, Value.int IntKind.i64 keep, Value.int IntKind.i64 torn] 25)
  have HPw := Lib.hid hPw
  have HPb := Lib.hid hPb
  clear hPw hPb
  go_enter Try.func6, Try.ntmps6
  go_wp2_with fail
  have hp0 : (w.alloc (Obj.cells #[Value.int IntKind.i64 room, Value.int IntKind.i64 crash, Value.int IntKind.i64 keep, Value.int IntKind.i64 torn] 25)).cell? ⟨w.heap.size, 0, none⟩ = some (.int .i64 room) := blk_cell HPb.out 0
  have hp1 : (w.alloc (Obj.cells #[Value.int IntKind.i64 room, Value.int IntKind.i64 crash, Value.int IntKind.i64 keep, Value.int IntKind.i64 torn] 25)).cell? ⟨w.heap.size, 1, none⟩ = some (.int .i64 crash) := blk_cell HPb.out 1
  have hp2 : (w.alloc (Obj.cells #[Value.int IntKind.i64 room, Value.int IntKind.i64 crash, Value.int IntKind.i64 keep, Value.int IntKind.i64 torn] 25)).cell? ⟨w.heap.size, 2, none⟩ = some (.int .i64 keep) := blk_cell HPb.out 2
  have hp3 : (w.alloc (Obj.cells #[Value.int IntKind.i64 room, Value.int IntKind.i64 crash, Value.int IntKind.i64 keep, Value.int IntKind.i64 torn] 25)).cell? ⟨w.heap.size, 3, none⟩ = some (.int .i64 torn) := blk_cell HPb.out 3
  have hpz : w.heap.size < (w.alloc (Obj.cells #[Value.int IntKind.i64 room, Value.int IntKind.i64 crash, Value.int IntKind.i64 keep, Value.int IntKind.i64 torn] 25)).heap.size := blk_lt HPb.out
  generalize w.alloc (Obj.cells #[Value.int IntKind.i64 room, Value.int IntKind.i64 crash, Value.int IntKind.i64 keep, Value.int IntKind.i64 torn] 25) = w1 at *
  have HS := Lib.hid (show ∀ w', Below w1.heap.size w1 w' → w'.cell? ⟨w.heap.size, 0, none⟩ = some (.int .i64 room) ∧ w'.cell? ⟨w.heap.size, 1, none⟩ = some (.int .i64 crash) ∧ w'.cell? ⟨w.heap.size, 2, none⟩ = some (.int .i64 keep) ∧ w'.cell? ⟨w.heap.size, 3, none⟩ = some (.int .i64 torn) from fun w' h =>
    ⟨(h.cell (p := ⟨_, _, none⟩) hpz).trans hp0, (h.cell (p := ⟨_, _, none⟩) hpz).trans hp1, (h.cell (p := ⟨_, _, none⟩) hpz).trans hp2, (h.cell (p := ⟨_, _, none⟩) hpz).trans hp3⟩)
  have hbd : Below w1.heap.size w1 w1.drew := (Below.refl _ _).drew
  go_region_held3 (fun w' => w'.cell? ⟨w.heap.size, 0, none⟩ = some (.int .i64 room) ∧ w'.cell? ⟨w.heap.size, 1, none⟩ = some (.int .i64 crash) ∧ w'.cell? ⟨w.heap.size, 2, none⟩ = some (.int .i64 keep) ∧ w'.cell? ⟨w.heap.size, 3, none⟩ = some (.int .i64 torn))
    (first | exact HS.out _ hbd | exact HS.out _ hb2 | exact HS.out _ hb3)
    (first | (go_at_call 8; refine (new_any room crash keep torn _).mono ?_; rintro e w2 ⟨b, rfl, hT2, hq2⟩; have hb2 : Below w1.heap.size w1 w2 := hbd.trans hq2) | (go_at_call 20; refine (rnew_any room crash keep torn _).mono ?_; rintro e w3 ⟨rb, rfl, hR3, hq3⟩; have hb3 : Below w1.heap.size w1 w3 := hb2.trans (hq3.mono hb2.size)))
  have hLo : w.heap.size ≤ w1.heap.size := Nat.le_of_lt hpz
  have hT3 : TapeAt w3 w.heap.size b none (newSt room crash keep torn) := (hT2.below hq3).lower hLo
  have hR3' : RefAt w3 w.heap.size rb none (newSt room crash keep torn) := hR3.lower (Nat.le_trans hLo hb2.size)
  have hG3 := gd_new room crash keep torn
  have hb03 : Below w.heap.size w w3 := HPw.out.trans (hb3.mono hLo)
  clear hR3 hT2 hq2 hq3 hb2 hb3 hbd hp0 hp1 hp2 hp3
  generalize newSt room crash keep torn = st0 at *
  go_wp2_with fail
  go_loopw [7] (fun iv wr => ∃ (i : Nat) (st : TapeSt) (row rrow : Option Nat), i ≤ l.length ∧ iv = .int .i64 i ∧ Gd st i ∧ TapeAt wr w.heap.size b row st ∧ RefAt wr w.heap.size rb rrow st ∧ Below w.heap.size w wr) (fun iv _ => l.length - (intOf iv).toNat)
  case atStart => exact ⟨0, st0, none, none, by omega, rfl, hG3, hT3, hR3', hb03⟩
  case round =>
    obtain ⟨i, st, row, rrow, hi, rfl, hG, hT, hR, hb⟩ := hrel
    clear hT3 hR3' hb03 hG3
    have hok := hG.ok (by omega)
    by_cases hlt : i < l.length
    · have hA0 := HAC.out i hlt
      have hA1 := hA0.below hab hb
      obtain ⟨x, hx⟩ : ∃ x, l[i] = x := ⟨_, rfl⟩
      rw [hx] at hA0 hA1
      clear hx
      obtain ⟨a1, a2, a3, a4, a5, a6, a7, astr, hre, A, ac, hlv⟩ := hA1
      have HRE := Lib.hid hre
      clear hre
      rw [hlv] at a3 astr
      have hstr0 := hA0.strs
      rw [hlv] at hstr0
      have habr : ab < wr.heap.size := Nat.lt_of_lt_of_le hab hb.size
      have HSTR := Lib.hid astr
      have HA0lv := Lib.hid (show w.cell? ⟨ab, ao + i * 7 + 2, none⟩ = some (.slice A x.l.length ac) from by rw [← hlv]; exact hA0.lv)
      have HA0s := Lib.hid hstr0
      have HA0 := Lib.hid hA0
      clear astr hlv hA0 hstr0
      go_wp2_with fail
      go_loop [8, 9] (fun nv kv => ∃ k : Nat, k ≤ x.l.length ∧ k ≤ 20 ∧ kv = .int .i64 k ∧ nv = .int .i64 (sizes (x.l.take k) : Nat)) (fun _ kv => 20 - (intOf kv).toNat)
      case atStart => exact ⟨0, by omega, by omega, rfl, rfl⟩
      case round =>
        obtain ⟨k, hk1, hk2, rfl, rfl⟩ := hrel
        by_cases hgo : k < x.l.length ∧ k < 20
        · obtain ⟨hkl, hk20⟩ := hgo
          obtain ⟨lb, lo, hAA, hcl⟩ : ∃ lb lo, A = some ⟨lb, lo, none⟩ ∧ wr.cell? ⟨lb, lo + k, none⟩ = some (.string x.l[k]) := by
            rcases HSTR.out with ⟨h0, _⟩ | ⟨lb, lo, c', hv, _, hc⟩
            · rw [h0] at hkl; simp at hkl
            · injection hv with h1 _ _
              exact ⟨lb, lo, h1, hc k hkl⟩
          subst hAA
          have hz1 := HRE.out x.l[k] (List.getElem_mem hkl)
          have hz2 := sizes_le (x.l.take k) reachBytes (fun s hs => HRE.out s (List.mem_of_mem_take hs))
          have hz3 : (x.l.take k).length = k := by rw [List.length_take]; omega
          rw [hz3] at hz2
          have hz4 : reachBytes * k ≤ reachBytes * 20 := Nat.mul_le_mul_left _ (by omega)
          have hz5 : reachBytes = 140737488351232 := rfl
          rw [hz5] at hz1 hz2 hz4
          have hz6 : sizes (x.l.take k) ≤ 2814749767024640 := by omega
          have HSN := Lib.hid (sizes_snoc x.l k hkl)
          clear hz2 hz3 hz4 hz5
          generalize sizes (x.l.take k) = acc at *
          generalize x.l[k] = xs at *
          go_wp2
          go_round
          case rel => exact ⟨k + 1, by omega, by omega, by go_num, by rw [HSN.out]; go_num⟩
          case measure => simp [intOf]; omega
        · have hkk : k = x.l.length ∨ (k = 20 ∧ 20 < x.l.length) := by omega
          by_cases hbig : 300 < sizes (x.l.take k) ∨ 10 < x.l.length
          · have hb1 : 300 < sizes (x.l.take k) ∨ ¬ 300 < sizes (x.l.take k) := by omega
            have hlen : x.l.length ≤ 20 ∨ 20 < x.l.length := by omega
            generalize sizes (x.l.take k) = acc at *
            have hnk : ¬ (k < x.l.length ∧ k < 20) := hgo
            clear hgo
            rcases hb1 with hb1 | hb1
            · have hb2 : (300 : Int) < acc := by omega
              rcases hkk with hkk | ⟨hkk, hkk2⟩
              · have hk3 : ¬ k < x.l.length := by omega
                go_wp2_with fail
                refine (awake_any _).mono ?_
                rintro e w9 ⟨rfl, hb9⟩
                have hbb := hb.trans (hb9.mono hb.size)
                go_wp2
                go_ret
                exact ⟨rfl, hbb⟩
              · have hk3 : k < x.l.length := by omega
                have hk4 : ¬ k < 20 := by omega
                go_wp2_with fail
                refine (awake_any _).mono ?_
                rintro e w9 ⟨rfl, hb9⟩
                have hbb := hb.trans (hb9.mono hb.size)
                go_wp2
                go_ret
                exact ⟨rfl, hbb⟩
            · have hb2 : ¬ (300 : Int) < acc := by omega
              have hb3 : (10 : Int) < x.l.length := by omega
              rcases hkk with hkk | ⟨hkk, hkk2⟩
              · have hk3 : ¬ k < x.l.length := by omega
                go_wp2_with fail
                refine (awake_any _).mono ?_
                rintro e w9 ⟨rfl, hb9⟩
                have hbb := hb.trans (hb9.mono hb.size)
                go_wp2
                go_ret
                exact ⟨rfl, hbb⟩
              · have hk3 : k < x.l.length := by omega
                have hk4 : ¬ k < 20 := by omega
                go_wp2_with fail
                refine (awake_any _).mono ?_
                rintro e w9 ⟨rfl, hb9⟩
                have hbb := hb.trans (hb9.mono hb.size)
                go_wp2
                go_ret
                exact ⟨rfl, hbb⟩
          · have hk5 : k = x.l.length := by omega
            subst hk5
            have htk : x.l.take x.l.length = x.l := List.take_length
            have hsz : sizes x.l ≤ 300 := by rw [htk] at hbig; omega
            have hsz2 : ¬ (300 : Int) < sizes (x.l.take x.l.length) := by rw [htk]; omega
            have hsz3 : ¬ (10 : Int) < x.l.length := by omega
            have hk6 : ¬ x.l.length < x.l.length := by omega
            have hstr := HSTR.out
            generalize sizes (x.l.take x.l.length) = acc at *
            clear hbig hkk hgo htk
            have hacts : x.act = 0 ∨ x.act = 1 ∨ x.act = 2 ∨ x.act = 3 ∨ x.act = 4 ∨ x.act = 5 ∨ (x.act ≠ 0 ∧ x.act ≠ 1 ∧ x.act ≠ 2 ∧ x.act ≠ 3 ∧ x.act ≠ 4 ∧ x.act ≠ 5) := by omega
            have HSS := Lib.hid (show ∀ w', Below w.heap.size w w' → w'.cell? ⟨ab, ao + i * 7 + 1, none⟩ = some (.int .i64 x.side) ∧ w'.cell? ⟨ab, ao + i * 7 + 2, none⟩ = some (.slice A x.l.length ac) from fun w' h => ⟨(h.cell (p := ⟨ab, ao + i * 7 + 1, none⟩) hab).trans HA0.out.side, (h.cell (p := ⟨ab, ao + i * 7 + 2, none⟩) hab).trans HA0lv.out⟩)
            rcases hacts with hact | hact | hact | hact | hact | hact | hact
            · have e0 : (x.act == 0) = true := by rw [beq_iff_eq]; omega
              clear hact
              go_wp2_with fail
              have hbd0 : Below wr.heap.size wr wr.drew := (Below.refl _ _).drew
              have hbd : Below w.heap.size w wr.drew := hb.trans (hbd0.mono hb.size)
              have hTd := hT.below hbd0
              have hRd := hR.below hbd0
              have hsd := StrsAt.below (B := 0) hstr hbd0
              clear hT hR
              go_region_held3 (fun w' => w'.cell? ⟨ab, ao + i * 7 + 1, none⟩ = some (.int .i64 x.side) ∧ w'.cell? ⟨ab, ao + i * 7 + 2, none⟩ = some (.slice A x.l.length ac))
                (first | exact HSS.out _ hbd | exact HSS.out _ hb7 | exact HSS.out _ hb8)
                (first | (go_at_call 9; refine (add_any w.heap.size b row st x.side _ x.l _ hTd hok hbd.size hsd (by omega) (by have := hG.size; omega)).mono ?_; rintro e w7 ⟨rfl, row8, hT7, hr7, hF7⟩; have hR7 := hRd.fr hTd hF7; have hb7 : Below w.heap.size w w7 := hbd.trans (hF7.belowT hTd hbd.size); have hs7 := StrsAt.below (B := 0) (HA0s.out) hb7) | (go_at_call 12; refine (num_any _ _).mono ?_; rintro e w' ⟨rfl, rfl⟩) | (go_at_call 21; refine (radd_any w.heap.size rb rrow st x.side _ x.l _ hR7 hok hG.bare hb7.size hs7 (by omega) (by omega)).mono ?_; rintro e w8 ⟨rfl, rrow8, hR8, hr8, hF8⟩; have hT8 := hT7.fr hR7 hF8; have hb8 : Below w.heap.size w w8 := hb7.trans (hF8.belowR hR7 hb7.size)))
              have hG8 := gd_add hG x.side x.l hsz
              generalize (addF st x.side x.l).1 = st8 at *
              generalize (addF st x.side x.l).2 = er at *
              have a2s := (HSS.out _ hb8).1
              clear hTd hRd hT7 hR7 hF7 hF8 hbd hbd0 hb7 hsd hs7
              go_wp2_with fail
              have hok8 := hG8.ok (by omega)
              refine (side_any w.heap.size b row8 st8 x.side _ hT8 hok8).mono ?_
              rintro e wa ⟨rfl, hba⟩
              have hTa := hT8.below hba
              have hRa := hR8.below hba
              have hwa := hb8.trans (hba.mono hb8.size)
              have a2a := (HSS.out _ hwa).1
              clear hT8 hR8 hba hb8
              go_wp2_with fail
              refine (rside_any w.heap.size rb rrow8 st8 x.side _ hRa hok8 hG8.bare hwa.size).mono ?_
              rintro e wb ⟨rfl, hbb⟩
              have hTb := hTa.below hbb
              have hRb := hRa.below hbb
              have hwb := hwa.trans (hbb.mono hwa.size)
              generalize (sideF st8 x.side).1 = sv at *
              generalize (sideF st8 x.side).2 = se at *
              clear hTa hRa hbb hwa a2a
              have hRb0 := hRb
              obtain ⟨sv9, lv9, _, _, hB9, _, hO9⟩ := hRb
              obtain ⟨A9, c9, hlv9⟩ := own_slice hO9
              rw [hlv9] at hB9
              have n1 : wb.cell? ⟨rb, 1, none⟩ = some (.slice A9 st8.loose.length c9) := blk_cell hB9 1
              have n6 : wb.cell? ⟨rb, 6, none⟩ = some (.int .i64 st8.calls) := blk_cell hB9 6
              have n7 : wb.cell? ⟨rb, 7, none⟩ = some (.bool st8.down) := blk_cell hB9 7
              have hrb := blk_lt hB9
              clear hB9 hO9 hlv9
              go_wp2_with fail
              refine region_lay (by kernel_rfl) (by kernel_rfl) ?_
              repeat (go_big_quiet_step (first | (go_at_call 12; exact Calls.lay_same (num_any _ _)) | (go_at_call 16; exact Calls.lay_same (down_any w.heap.size b row8 st8 _ (hTb.below (wb.lay_below _)))) | (go_at_call 17; exact Calls.lay_same (calls_any w.heap.size b row8 st8 _ (hTb.below (wb.lay_below _)))) | (go_at_call 18; exact Calls.lay_same (loose_any w.heap.size b row8 st8 _ (hTb.below (wb.lay_below _))))))
              refine wpQuiet_nil ?_
              rintro _ ⟨zq, rfl⟩
              have hbz := wb.lay_below zq
              have hTz := hTb.below hbz
              have hRz := hRb0.below hbz
              have hwz := hwb.trans (hbz.mono hwb.size)
              generalize wb.lay zq = wz at *
              clear hTb hRb0 hwb n1 n6 n7
              go_wp2
              go_roundw
              case rel => exact ⟨i + 1, st8, row8, rrow8, by omega, by go_num, hG8, hTz, hRz, hwz⟩
              case measure => simp [intOf]; omega
            · have e0 : (x.act == 0) = false := by rw [beq_eq_false_iff_ne]; omega
              have e1 : (x.act == 1) = true := by rw [beq_iff_eq]; omega
              clear hact
              go_wp2_with fail
              have hbd0 : Below wr.heap.size wr wr.drew := (Below.refl _ _).drew
              have hbd : Below w.heap.size w wr.drew := hb.trans (hbd0.mono hb.size)
              have hTd := hT.below hbd0
              have hRd := hR.below hbd0
              have hsd := StrsAt.below (B := 0) hstr hbd0
              clear hT hR
              go_region_held3 (fun w' => w'.cell? ⟨ab, ao + i * 7 + 1, none⟩ = some (.int .i64 x.side) ∧ w'.cell? ⟨ab, ao + i * 7 + 2, none⟩ = some (.slice A x.l.length ac))
                (first | exact HSS.out _ hbd | exact HSS.out _ hb7 | exact HSS.out _ hb8)
                (first | (go_at_call 9; refine (add_any w.heap.size b row st x.side _ x.l _ hTd hok hbd.size hsd (by omega) (by have := hG.size; omega)).mono ?_; rintro e w7 ⟨rfl, row8, hT7, hr7, hF7⟩; have hR7 := hRd.fr hTd hF7; have hb7 : Below w.heap.size w w7 := hbd.trans (hF7.belowT hTd hbd.size); have hs7 := StrsAt.below (B := 0) (HA0s.out) hb7) | (go_at_call 12; refine (num_any _ _).mono ?_; rintro e w' ⟨rfl, rfl⟩) | (go_at_call 21; refine (radd_any w.heap.size rb rrow st x.side _ x.l _ hR7 hok hG.bare hb7.size hs7 (by omega) (by omega)).mono ?_; rintro e w8 ⟨rfl, rrow8, hR8, hr8, hF8⟩; have hT8 := hT7.fr hR7 hF8; have hb8 : Below w.heap.size w w8 := hb7.trans (hF8.belowR hR7 hb7.size)))
              have hG8 := gd_add hG x.side x.l hsz
              generalize (addF st x.side x.l).1 = st8 at *
              generalize (addF st x.side x.l).2 = er at *
              have a2s := (HSS.out _ hb8).1
              clear hTd hRd hT7 hR7 hF7 hF8 hbd hbd0 hb7 hsd hs7
              go_wp2_with fail
              have hok8 := hG8.ok (by omega)
              refine (side_any w.heap.size b row8 st8 x.side _ hT8 hok8).mono ?_
              rintro e wa ⟨rfl, hba⟩
              have hTa := hT8.below hba
              have hRa := hR8.below hba
              have hwa := hb8.trans (hba.mono hb8.size)
              have a2a := (HSS.out _ hwa).1
              clear hT8 hR8 hba hb8
              go_wp2_with fail
              refine (rside_any w.heap.size rb rrow8 st8 x.side _ hRa hok8 hG8.bare hwa.size).mono ?_
              rintro e wb ⟨rfl, hbb⟩
              have hTb := hTa.below hbb
              have hRb := hRa.below hbb
              have hwb := hwa.trans (hbb.mono hwa.size)
              generalize (sideF st8 x.side).1 = sv at *
              generalize (sideF st8 x.side).2 = se at *
              clear hTa hRa hbb hwa a2a
              have hRb0 := hRb
              obtain ⟨sv9, lv9, _, _, hB9, _, hO9⟩ := hRb
              obtain ⟨A9, c9, hlv9⟩ := own_slice hO9
              rw [hlv9] at hB9
              have n1 : wb.cell? ⟨rb, 1, none⟩ = some (.slice A9 st8.loose.length c9) := blk_cell hB9 1
              have n6 : wb.cell? ⟨rb, 6, none⟩ = some (.int .i64 st8.calls) := blk_cell hB9 6
              have n7 : wb.cell? ⟨rb, 7, none⟩ = some (.bool st8.down) := blk_cell hB9 7
              have hrb := blk_lt hB9
              clear hB9 hO9 hlv9
              go_wp2_with fail
              refine region_lay (by kernel_rfl) (by kernel_rfl) ?_
              repeat (go_big_quiet_step (first | (go_at_call 12; exact Calls.lay_same (num_any _ _)) | (go_at_call 16; exact Calls.lay_same (down_any w.heap.size b row8 st8 _ (hTb.below (wb.lay_below _)))) | (go_at_call 17; exact Calls.lay_same (calls_any w.heap.size b row8 st8 _ (hTb.below (wb.lay_below _)))) | (go_at_call 18; exact Calls.lay_same (loose_any w.heap.size b row8 st8 _ (hTb.below (wb.lay_below _))))))
              refine wpQuiet_nil ?_
              rintro _ ⟨zq, rfl⟩
              have hbz := wb.lay_below zq
              have hTz := hTb.below hbz
              have hRz := hRb0.below hbz
              have hwz := hwb.trans (hbz.mono hwb.size)
              generalize wb.lay zq = wz at *
              clear hTb hRb0 hwb n1 n6 n7
              go_wp2
              go_roundw
              case rel => exact ⟨i + 1, st8, row8, rrow8, by omega, by go_num, hG8, hTz, hRz, hwz⟩
              case measure => simp [intOf]; omega
            · have e0 : (x.act == 0) = false := by rw [beq_eq_false_iff_ne]; omega
              have e1 : (x.act == 1) = false := by rw [beq_eq_false_iff_ne]; omega
              have e2 : (x.act == 2) = true := by rw [beq_iff_eq]; omega
              clear hact
              go_wp2_with fail
              have hbd0 : Below wr.heap.size wr wr.drew := (Below.refl _ _).drew
              have hbd : Below w.heap.size w wr.drew := hb.trans (hbd0.mono hb.size)
              have hTd := hT.below hbd0
              have hRd := hR.below hbd0
              have hsd := StrsAt.below (B := 0) hstr hbd0
              clear hT hR
              go_region_held3 (fun w' => w'.cell? ⟨ab, ao + i * 7 + 1, none⟩ = some (.int .i64 x.side) ∧ w'.cell? ⟨ab, ao + i * 7 + 2, none⟩ = some (.slice A x.l.length ac))
                (first | exact HSS.out _ hbd | exact HSS.out _ hb7 | exact HSS.out _ hb8)
                (first | (go_at_call 9; refine (add_any w.heap.size b row st x.side _ x.l _ hTd hok hbd.size hsd (by omega) (by have := hG.size; omega)).mono ?_; rintro e w7 ⟨rfl, row8, hT7, hr7, hF7⟩; have hR7 := hRd.fr hTd hF7; have hb7 : Below w.heap.size w w7 := hbd.trans (hF7.belowT hTd hbd.size); have hs7 := StrsAt.below (B := 0) (HA0s.out) hb7) | (go_at_call 12; refine (num_any _ _).mono ?_; rintro e w' ⟨rfl, rfl⟩) | (go_at_call 21; refine (radd_any w.heap.size rb rrow st x.side _ x.l _ hR7 hok hG.bare hb7.size hs7 (by omega) (by omega)).mono ?_; rintro e w8 ⟨rfl, rrow8, hR8, hr8, hF8⟩; have hT8 := hT7.fr hR7 hF8; have hb8 : Below w.heap.size w w8 := hb7.trans (hF8.belowR hR7 hb7.size)))
              have hG8 := gd_add hG x.side x.l hsz
              generalize (addF st x.side x.l).1 = st8 at *
              generalize (addF st x.side x.l).2 = er at *
              have a2s := (HSS.out _ hb8).1
              clear hTd hRd hT7 hR7 hF7 hF8 hbd hbd0 hb7 hsd hs7
              go_wp2_with fail
              have hok8 := hG8.ok (by omega)
              refine (side_any w.heap.size b row8 st8 x.side _ hT8 hok8).mono ?_
              rintro e wa ⟨rfl, hba⟩
              have hTa := hT8.below hba
              have hRa := hR8.below hba
              have hwa := hb8.trans (hba.mono hb8.size)
              have a2a := (HSS.out _ hwa).1
              clear hT8 hR8 hba hb8
              go_wp2_with fail
              refine (rside_any w.heap.size rb rrow8 st8 x.side _ hRa hok8 hG8.bare hwa.size).mono ?_
              rintro e wb ⟨rfl, hbb⟩
              have hTb := hTa.below hbb
              have hRb := hRa.below hbb
              have hwb := hwa.trans (hbb.mono hwa.size)
              generalize (sideF st8 x.side).1 = sv at *
              generalize (sideF st8 x.side).2 = se at *
              clear hTa hRa hbb hwa a2a
              have hRb0 := hRb
              obtain ⟨sv9, lv9, _, _, hB9, _, hO9⟩ := hRb
              obtain ⟨A9, c9, hlv9⟩ := own_slice hO9
              rw [hlv9] at hB9
              have n1 : wb.cell? ⟨rb, 1, none⟩ = some (.slice A9 st8.loose.length c9) := blk_cell hB9 1
              have n6 : wb.cell? ⟨rb, 6, none⟩ = some (.int .i64 st8.calls) := blk_cell hB9 6
              have n7 : wb.cell? ⟨rb, 7, none⟩ = some (.bool st8.down) := blk_cell hB9 7
              have hrb := blk_lt hB9
              clear hB9 hO9 hlv9
              go_wp2_with fail
              refine region_lay (by kernel_rfl) (by kernel_rfl) ?_
              repeat (go_big_quiet_step (first | (go_at_call 12; exact Calls.lay_same (num_any _ _)) | (go_at_call 16; exact Calls.lay_same (down_any w.heap.size b row8 st8 _ (hTb.below (wb.lay_below _)))) | (go_at_call 17; exact Calls.lay_same (calls_any w.heap.size b row8 st8 _ (hTb.below (wb.lay_below _)))) | (go_at_call 18; exact Calls.lay_same (loose_any w.heap.size b row8 st8 _ (hTb.below (wb.lay_below _))))))
              refine wpQuiet_nil ?_
              rintro _ ⟨zq, rfl⟩
              have hbz := wb.lay_below zq
              have hTz := hTb.below hbz
              have hRz := hRb0.below hbz
              have hwz := hwb.trans (hbz.mono hwb.size)
              generalize wb.lay zq = wz at *
              clear hTb hRb0 hwb n1 n6 n7
              go_wp2
              go_roundw
              case rel => exact ⟨i + 1, st8, row8, rrow8, by omega, by go_num, hG8, hTz, hRz, hwz⟩
              case measure => simp [intOf]; omega
            · have e0 : (x.act == 0) = false := by rw [beq_eq_false_iff_ne]; omega
              have e1 : (x.act == 1) = false := by rw [beq_eq_false_iff_ne]; omega
              have e2 : (x.act == 2) = false := by rw [beq_eq_false_iff_ne]; omega
              have e3 : (x.act == 3) = true := by rw [beq_iff_eq]; omega
              clear hact
              go_wp2_with fail
              have hbd0 : Below wr.heap.size wr wr.drew := (Below.refl _ _).drew
              have hbd : Below w.heap.size w wr.drew := hb.trans (hbd0.mono hb.size)
              have hTd := hT.below hbd0
              have hRd := hR.below hbd0
              clear hT hR
              go_region_held3 (fun w' => w'.cell? ⟨ab, ao + i * 7 + 1, none⟩ = some (.int .i64 x.side) ∧ w'.cell? ⟨ab, ao + i * 7 + 2, none⟩ = some (.slice A x.l.length ac))
                (first | exact HSS.out _ hbd | exact HSS.out _ hb7 | exact HSS.out _ hb8)
                (first | (go_at_call 13; refine (wipe_any w.heap.size b row st x.side _ hTd hok hbd.size).mono ?_; rintro e w7 ⟨rfl, row8, hT7, hr7, hF7⟩; have hR7 := hRd.fr hTd hF7; have hb7 : Below w.heap.size w w7 := hbd.trans (hF7.belowT hTd hbd.size)) | (go_at_call 12; refine (num_any _ _).mono ?_; rintro e w' ⟨rfl, rfl⟩) | (go_at_call 22; refine (rwipe_any w.heap.size rb rrow st x.side _ hR7 hok hG.bare hb7.size).mono ?_; rintro e w8 ⟨rfl, rrow8, hR8, hr8, hF8⟩; have hT8 := hT7.fr hR7 hF8; have hb8 : Below w.heap.size w w8 := hb7.trans (hF8.belowR hR7 hb7.size)))
              have hG8 := gd_wipe hG x.side
              generalize (wipeF st x.side).1 = st8 at *
              generalize (wipeF st x.side).2 = er at *
              have a2s := (HSS.out _ hb8).1
              clear hTd hRd hT7 hR7 hF7 hF8 hbd hbd0 hb7
              go_wp2_with fail
              have hok8 := hG8.ok (by omega)
              refine (side_any w.heap.size b row8 st8 x.side _ hT8 hok8).mono ?_
              rintro e wa ⟨rfl, hba⟩
              have hTa := hT8.below hba
              have hRa := hR8.below hba
              have hwa := hb8.trans (hba.mono hb8.size)
              have a2a := (HSS.out _ hwa).1
              clear hT8 hR8 hba hb8
              go_wp2_with fail
              refine (rside_any w.heap.size rb rrow8 st8 x.side _ hRa hok8 hG8.bare hwa.size).mono ?_
              rintro e wb ⟨rfl, hbb⟩
              have hTb := hTa.below hbb
              have hRb := hRa.below hbb
              have hwb := hwa.trans (hbb.mono hwa.size)
              generalize (sideF st8 x.side).1 = sv at *
              generalize (sideF st8 x.side).2 = se at *
              clear hTa hRa hbb hwa a2a
              have hRb0 := hRb
              obtain ⟨sv9, lv9, _, _, hB9, _, hO9⟩ := hRb
              obtain ⟨A9, c9, hlv9⟩ := own_slice hO9
              rw [hlv9] at hB9
              have n1 : wb.cell? ⟨rb, 1, none⟩ = some (.slice A9 st8.loose.length c9) := blk_cell hB9 1
              have n6 : wb.cell? ⟨rb, 6, none⟩ = some (.int .i64 st8.calls) := blk_cell hB9 6
              have n7 : wb.cell? ⟨rb, 7, none⟩ = some (.bool st8.down) := blk_cell hB9 7
              have hrb := blk_lt hB9
              clear hB9 hO9 hlv9
              go_wp2_with fail
              refine region_lay (by kernel_rfl) (by kernel_rfl) ?_
              repeat (go_big_quiet_step (first | (go_at_call 12; exact Calls.lay_same (num_any _ _)) | (go_at_call 16; exact Calls.lay_same (down_any w.heap.size b row8 st8 _ (hTb.below (wb.lay_below _)))) | (go_at_call 17; exact Calls.lay_same (calls_any w.heap.size b row8 st8 _ (hTb.below (wb.lay_below _)))) | (go_at_call 18; exact Calls.lay_same (loose_any w.heap.size b row8 st8 _ (hTb.below (wb.lay_below _))))))
              refine wpQuiet_nil ?_
              rintro _ ⟨zq, rfl⟩
              have hbz := wb.lay_below zq
              have hTz := hTb.below hbz
              have hRz := hRb0.below hbz
              have hwz := hwb.trans (hbz.mono hwb.size)
              generalize wb.lay zq = wz at *
              clear hTb hRb0 hwb n1 n6 n7
              go_wp2
              go_roundw
              case rel => exact ⟨i + 1, st8, row8, rrow8, by omega, by go_num, hG8, hTz, hRz, hwz⟩
              case measure => simp [intOf]; omega
            · have e0 : (x.act == 0) = false := by rw [beq_eq_false_iff_ne]; omega
              have e1 : (x.act == 1) = false := by rw [beq_eq_false_iff_ne]; omega
              have e2 : (x.act == 2) = false := by rw [beq_eq_false_iff_ne]; omega
              have e3 : (x.act == 3) = false := by rw [beq_eq_false_iff_ne]; omega
              have e4 : (x.act == 4) = true := by rw [beq_iff_eq]; omega
              clear hact
              go_wp2_with fail
              refine (seal_any w.heap.size b row st _ hT hok).mono ?_
              rintro e w7 ⟨rfl, row8, hT7, hr7, hF7⟩
              have hR7 := hR.fr hT hF7
              have hb7 := hb.trans (hF7.belowT hT hb.size)
              clear hT hR hF7
              go_wp2_with (go_at_call 12; refine (num_any _ _).mono ?_; rintro e w' ⟨rfl, rfl⟩)
              refine (rseal_any w.heap.size rb rrow st _ hR7 hok hG.bare hb7.size).mono ?_
              rintro e w8 ⟨rfl, rrow8, hR8, hr8, hF8⟩
              have hT8 := hT7.fr hR7 hF8
              have hb8 : Below w.heap.size w w8 := hb7.trans (hF8.belowR hR7 hb7.size)
              have hG8 := gd_seal hG
              generalize (sealF st).1 = st8 at *
              generalize (sealF st).2 = er at *
              have a2s := (HSS.out _ hb8).1
              clear hT7 hR7 hF8 hb7
              go_wp2_with fail
              have hok8 := hG8.ok (by omega)
              refine (side_any w.heap.size b row8 st8 x.side _ hT8 hok8).mono ?_
              rintro e wa ⟨rfl, hba⟩
              have hTa := hT8.below hba
              have hRa := hR8.below hba
              have hwa := hb8.trans (hba.mono hb8.size)
              have a2a := (HSS.out _ hwa).1
              clear hT8 hR8 hba hb8
              go_wp2_with fail
              refine (rside_any w.heap.size rb rrow8 st8 x.side _ hRa hok8 hG8.bare hwa.size).mono ?_
              rintro e wb ⟨rfl, hbb⟩
              have hTb := hTa.below hbb
              have hRb := hRa.below hbb
              have hwb := hwa.trans (hbb.mono hwa.size)
              generalize (sideF st8 x.side).1 = sv at *
              generalize (sideF st8 x.side).2 = se at *
              clear hTa hRa hbb hwa a2a
              have hRb0 := hRb
              obtain ⟨sv9, lv9, _, _, hB9, _, hO9⟩ := hRb
              obtain ⟨A9, c9, hlv9⟩ := own_slice hO9
              rw [hlv9] at hB9
              have n1 : wb.cell? ⟨rb, 1, none⟩ = some (.slice A9 st8.loose.length c9) := blk_cell hB9 1
              have n6 : wb.cell? ⟨rb, 6, none⟩ = some (.int .i64 st8.calls) := blk_cell hB9 6
              have n7 : wb.cell? ⟨rb, 7, none⟩ = some (.bool st8.down) := blk_cell hB9 7
              have hrb := blk_lt hB9
              clear hB9 hO9 hlv9
              go_wp2_with fail
              refine region_lay (by kernel_rfl) (by kernel_rfl) ?_
              repeat (go_big_quiet_step (first | (go_at_call 12; exact Calls.lay_same (num_any _ _)) | (go_at_call 16; exact Calls.lay_same (down_any w.heap.size b row8 st8 _ (hTb.below (wb.lay_below _)))) | (go_at_call 17; exact Calls.lay_same (calls_any w.heap.size b row8 st8 _ (hTb.below (wb.lay_below _)))) | (go_at_call 18; exact Calls.lay_same (loose_any w.heap.size b row8 st8 _ (hTb.below (wb.lay_below _))))))
              refine wpQuiet_nil ?_
              rintro _ ⟨zq, rfl⟩
              have hbz := wb.lay_below zq
              have hTz := hTb.below hbz
              have hRz := hRb0.below hbz
              have hwz := hwb.trans (hbz.mono hwb.size)
              generalize wb.lay zq = wz at *
              clear hTb hRb0 hwb n1 n6 n7
              go_wp2
              go_roundw
              case rel => exact ⟨i + 1, st8, row8, rrow8, by omega, by go_num, hG8, hTz, hRz, hwz⟩
              case measure => simp [intOf]; omega
            · have e0 : (x.act == 0) = false := by rw [beq_eq_false_iff_ne]; omega
              have e1 : (x.act == 1) = false := by rw [beq_eq_false_iff_ne]; omega
              have e2 : (x.act == 2) = false := by rw [beq_eq_false_iff_ne]; omega
              have e3 : (x.act == 3) = false := by rw [beq_eq_false_iff_ne]; omega
              have e4 : (x.act == 4) = false := by rw [beq_eq_false_iff_ne]; omega
              have e5 : (x.act == 5) = true := by rw [beq_iff_eq]; omega
              clear hact
              go_wp2_with fail
              refine (fall_any w.heap.size b row st x.room x.crash x.keep x.torn _ hT hok).mono ?_
              rintro e w7 ⟨rfl, row8, hT7, hr7, hF7⟩
              have hR7 := hR.fr hT hF7
              have hb7 := hb.trans (hF7.belowT hT hb.size)
              have p3 := (hb7.cell (p := ⟨ab, ao + i * 7 + 3, none⟩) hab).trans HA0.out.room
              have p4 : w7.cell? ⟨ab, ao + i * 7 + 3 + 1, none⟩ = some (.int .i64 x.crash) := (hb7.cell (p := ⟨ab, ao + i * 7 + 4, none⟩) hab).trans HA0.out.crash
              have p5 : w7.cell? ⟨ab, ao + i * 7 + 3 + 2, none⟩ = some (.int .i64 x.keep) := (hb7.cell (p := ⟨ab, ao + i * 7 + 5, none⟩) hab).trans HA0.out.keep
              have p6 : w7.cell? ⟨ab, ao + i * 7 + 3 + 3, none⟩ = some (.int .i64 x.torn) := (hb7.cell (p := ⟨ab, ao + i * 7 + 6, none⟩) hab).trans HA0.out.torn
              clear hT hR hF7
              go_wp2_with fail
              refine (rfall_any w.heap.size rb rrow st x.room x.crash x.keep x.torn _ hR7 hok hG.bare hb7.size).mono ?_
              rintro e w8 ⟨rfl, rrow8, hR8, hr8, hF8⟩
              have hT8 := hT7.fr hR7 hF8
              have hb8 : Below w.heap.size w w8 := hb7.trans (hF8.belowR hR7 hb7.size)
              have hG8 := gd_fall hG x.room x.crash x.keep x.torn
              generalize fallF st x.room x.crash x.keep x.torn = st8 at *
              have a2s := (HSS.out _ hb8).1
              clear hT7 hR7 hF8 hb7 p3 p4 p5 p6
              go_wp2_with fail
              have hok8 := hG8.ok (by omega)
              refine (side_any w.heap.size b row8 st8 x.side _ hT8 hok8).mono ?_
              rintro e wa ⟨rfl, hba⟩
              have hTa := hT8.below hba
              have hRa := hR8.below hba
              have hwa := hb8.trans (hba.mono hb8.size)
              have a2a := (HSS.out _ hwa).1
              clear hT8 hR8 hba hb8
              go_wp2_with fail
              refine (rside_any w.heap.size rb rrow8 st8 x.side _ hRa hok8 hG8.bare hwa.size).mono ?_
              rintro e wb ⟨rfl, hbb⟩
              have hTb := hTa.below hbb
              have hRb := hRa.below hbb
              have hwb := hwa.trans (hbb.mono hwa.size)
              generalize (sideF st8 x.side).1 = sv at *
              generalize (sideF st8 x.side).2 = se at *
              clear hTa hRa hbb hwa a2a
              have hRb0 := hRb
              obtain ⟨sv9, lv9, _, _, hB9, _, hO9⟩ := hRb
              obtain ⟨A9, c9, hlv9⟩ := own_slice hO9
              rw [hlv9] at hB9
              have n1 : wb.cell? ⟨rb, 1, none⟩ = some (.slice A9 st8.loose.length c9) := blk_cell hB9 1
              have n6 : wb.cell? ⟨rb, 6, none⟩ = some (.int .i64 st8.calls) := blk_cell hB9 6
              have n7 : wb.cell? ⟨rb, 7, none⟩ = some (.bool st8.down) := blk_cell hB9 7
              have hrb := blk_lt hB9
              clear hB9 hO9 hlv9
              go_wp2_with fail
              refine region_lay (by kernel_rfl) (by kernel_rfl) ?_
              repeat (go_big_quiet_step (first | (go_at_call 12; exact Calls.lay_same (num_any _ _)) | (go_at_call 16; exact Calls.lay_same (down_any w.heap.size b row8 st8 _ (hTb.below (wb.lay_below _)))) | (go_at_call 17; exact Calls.lay_same (calls_any w.heap.size b row8 st8 _ (hTb.below (wb.lay_below _)))) | (go_at_call 18; exact Calls.lay_same (loose_any w.heap.size b row8 st8 _ (hTb.below (wb.lay_below _))))))
              refine wpQuiet_nil ?_
              rintro _ ⟨zq, rfl⟩
              have hbz := wb.lay_below zq
              have hTz := hTb.below hbz
              have hRz := hRb0.below hbz
              have hwz := hwb.trans (hbz.mono hwb.size)
              generalize wb.lay zq = wz at *
              clear hTb hRb0 hwb n1 n6 n7
              go_wp2
              go_roundw
              case rel => exact ⟨i + 1, st8, row8, rrow8, by omega, by go_num, hG8, hTz, hRz, hwz⟩
              case measure => simp [intOf]; omega
            · have e0 : (x.act == 0) = false := by rw [beq_eq_false_iff_ne]; omega
              have e1 : (x.act == 1) = false := by rw [beq_eq_false_iff_ne]; omega
              have e2 : (x.act == 2) = false := by rw [beq_eq_false_iff_ne]; omega
              have e3 : (x.act == 3) = false := by rw [beq_eq_false_iff_ne]; omega
              have e4 : (x.act == 4) = false := by rw [beq_eq_false_iff_ne]; omega
              have e5 : (x.act == 5) = false := by rw [beq_eq_false_iff_ne]; omega
              clear hact
              obtain ⟨row8, rrow8, st8, hT8, hR8, hG8⟩ : ∃ row8 rrow8 st8, TapeAt wr w.heap.size b row8 st8 ∧ RefAt wr w.heap.size rb rrow8 st8 ∧ Gd st8 (i + 1) := ⟨row, rrow, st, hT, hR, hG.next⟩
              have hb8 := hb
              clear hT hR
              go_wp2_with fail
              have hok8 := hG8.ok (by omega)
              refine (side_any w.heap.size b row8 st8 x.side _ hT8 hok8).mono ?_
              rintro e wa ⟨rfl, hba⟩
              have hTa := hT8.below hba
              have hRa := hR8.below hba
              have hwa := hb8.trans (hba.mono hb8.size)
              have a2a := (HSS.out _ hwa).1
              clear hT8 hR8 hba hb8
              go_wp2_with fail
              refine (rside_any w.heap.size rb rrow8 st8 x.side _ hRa hok8 hG8.bare hwa.size).mono ?_
              rintro e wb ⟨rfl, hbb⟩
              have hTb := hTa.below hbb
              have hRb := hRa.below hbb
              have hwb := hwa.trans (hbb.mono hwa.size)
              generalize (sideF st8 x.side).1 = sv at *
              generalize (sideF st8 x.side).2 = se at *
              clear hTa hRa hbb hwa a2a
              have hRb0 := hRb
              obtain ⟨sv9, lv9, _, _, hB9, _, hO9⟩ := hRb
              obtain ⟨A9, c9, hlv9⟩ := own_slice hO9
              rw [hlv9] at hB9
              have n1 : wb.cell? ⟨rb, 1, none⟩ = some (.slice A9 st8.loose.length c9) := blk_cell hB9 1
              have n6 : wb.cell? ⟨rb, 6, none⟩ = some (.int .i64 st8.calls) := blk_cell hB9 6
              have n7 : wb.cell? ⟨rb, 7, none⟩ = some (.bool st8.down) := blk_cell hB9 7
              have hrb := blk_lt hB9
              clear hB9 hO9 hlv9
              go_wp2_with fail
              refine region_lay (by kernel_rfl) (by kernel_rfl) ?_
              repeat (go_big_quiet_step (first | (go_at_call 12; exact Calls.lay_same (num_any _ _)) | (go_at_call 16; exact Calls.lay_same (down_any w.heap.size b row8 st8 _ (hTb.below (wb.lay_below _)))) | (go_at_call 17; exact Calls.lay_same (calls_any w.heap.size b row8 st8 _ (hTb.below (wb.lay_below _)))) | (go_at_call 18; exact Calls.lay_same (loose_any w.heap.size b row8 st8 _ (hTb.below (wb.lay_below _))))))
              refine wpQuiet_nil ?_
              rintro _ ⟨zq, rfl⟩
              have hbz := wb.lay_below zq
              have hTz := hTb.below hbz
              have hRz := hRb0.below hbz
              have hwz := hwb.trans (hbz.mono hwb.size)
              generalize wb.lay zq = wz at *
              clear hTb hRb0 hwb n1 n6 n7
              go_wp2
              go_roundw
              case rel => exact ⟨i + 1, st8, row8, rrow8, by omega, by go_num, hG8, hTz, hRz, hwz⟩
              case measure => simp [intOf]; omega
    · obtain rfl : i = l.length := by omega
      go_wp2_with fail
      refine (awake_any _).mono ?_
      rintro e w9 ⟨rfl, hb9⟩
      have hbb := hb.trans (hb9.mono hb.size)
      go_wp2
      go_ret
      exact ⟨rfl, hbb⟩
end Go.Proofs.Ytallocndghjoeaa
