/- A note that was torn is not there, whatever was left of it, and what is noted then is whole: for every list of numbers, numbers and keeping of a tape; package variables of Go as its own text lays them; no other condition. -/
import Derived.Test.YtepcagakegbjfaaDoorGg
import Derived.Test.YtepcagakegbjfaaDoorGf
import Derived.Test.YtepcagakegbjfaaDoorTie
import Derived.Test.YtepcagakegbjfaaDoorCards
import Derived.WalkKit
import Derived.ProofKit
import Derived.OpenShut
import Derived.ShutString
import Derived.ChangeOld
import Derived.Below
import Derived.LaidMore
import Derived.Lay
import Derived.SevenTiedAt
import Derived.Stop.Joined
/- JournalTorn. -/
namespace Go.Proofs.YtepcagakegbjfaaDoor
open Go.RowKit Go.Proofs.YtepcagakegbjfaaDoorW.PrintWords
open Jr (bs lb bs_lb lb_bs bs_app okLine TapeSt addF sealF wipeF fallF newSt Has Mes Out Down Jn Sd sizeL)

set_option maxRecDepth 100000 in
set_option maxHeartbeats 3200000 in
theorem torn_any (ln : Int → ByteArray) (hln : LineSpec ln) (xs : List Int) (A : Option Addr) (c : Nat) (a b keep torn : Int) (hxs : ∀ x ∈ xs, U8 x) (ha : U8 a) (hb : U8 b) (w : World) (hg : Gl w) (hr : Kd.C (Kd.int .u8) w A xs.length xs) (hc : xs.length ≤ c) :
    Calls Tryd.prog 9 #[.slice A xs.length c, .int .u8 a, .int .u8 b, .int .i64 keep, .int .i64 torn] w fun e w' => e = .returned (.bool true) ∧ Below w.heap.size w w' := by
  have h8 := hg.many
  by_cases hlen : 12 < xs.length
  · have hl2 : (12 : Int) < (xs.length : Int) := by omega
    clear hr hc
    go_enter Tryd.func9, Tryd.ntmps9
    go_wp2_with fail
    refine (awake_any _ hg).mono ?_
    rintro e w1 ⟨rfl, hb1⟩
    go_wp2
    go_ret
    exact ⟨rfl, hb1⟩
  have hl2 : (xs.length : Int) ≤ 12 := by omega
  have HR := Lib.hid hr
  have HC := Lib.hid hc
  have HX := Lib.hid hxs
  clear hr hc hxs
  go_enter Tryd.func9, Tryd.ntmps9
  go_wp2_with fail
  have hA0 := (Below.refl w.heap.size w).alloc (Nat.le_refl _) (Obj.cells #[.int .i64 262144, .int .i64 0, .int .i64 0, .int .i64 0] 28)
  have hP0 : (w.alloc (.cells #[.int .i64 262144, .int .i64 0, .int .i64 0, .int .i64 0] 28)).heap[w.heap.size]? = some (.cells #[.int .i64 262144, .int .i64 0, .int .i64 0, .int .i64 0] 28 (0, 0)) := World.alloc_heap_new w _
  generalize w.alloc (.cells #[.int .i64 262144, .int .i64 0, .int .i64 0, .int .i64 0] 28) = w0 at *
  have hp0 : w.heap.size < w0.heap.size := blk_lt hP0
  have hg0 := hg.below hA0 h8
  have hbas : ∃ bas, bas = w0.heap.size := ⟨_, rfl⟩
  obtain ⟨bas, hbas⟩ := hbas
  have hP := Lib.hid hP0
  have hA0s := Lib.hid hA0.size
  have HA0 := Lib.hid hA0
  clear hP0 hA0
  refine (new_any 262144 0 0 0 _).mono ?_
  rintro e w1 ⟨g, rfl, hT1, hb1⟩
  have h80 : 8 ≤ bas := by omega
  have hg1 := hg0.below hb1 hg0.many
  rw [← hbas] at hT1 hb1
  have hs1 := hb1.size
  go_wp2_with fail
  refine (open_glue bas g none _ ⟨0, 0, [], false⟩ [] 0 0 _ hg1 (by omega) hT1 (Jr.has_new ..) (mes_new ..) (by decide) (by decide)).mono ?_
  rintro e w2 ⟨lv2, rfl, hJ2, hb2, _⟩
  have hB2 : Below bas w0 w2 := hb1.trans (hb2.mono (by omega))
  clear hb1 hb2 hT1 hg1 hs1
  generalize w1.heap.size = b2 at *
  go_wp2_with fail
  refine (num_any 0 _).mono ?_
  rintro e w' ⟨rfl, rfl⟩
  go_wp2_with fail
  have hsz0 := hA0s.out
  have hW2 : Below w.heap.size w w2 := HA0.out.trans (hB2.mono (by omega))
  refine (hln.lines xs A c _ HX.out (by omega) (Kd.C_below HR.out hW2) HC.out).mono ?_
  rintro e w3 ⟨v3, rfl, hO3, hb3⟩
  have hJ3 := hJ2.below hb3
  have hB3 := hB2.trans (hb3.mono (by rw [hbas]; exact hB2.size))
  have hAp3 : Apt v3 b2 g none lv2 := apt_fresh hJ2 (own_bound hO3)
  have hsl := sizeL_lines hln xs HX.out
  have hg3 := hg0.below hB3 h80
  clear hJ2 hb3 hB2 hW2
  go_wp2_with fail
  refine (save_own bas b2 g none lv2 _ _ [] 0 0 v3 _ (xs.map ln) _ hg3 h80 (by rw [hbas]; exact hB3.size) hJ3 (Jr.has_new ..) (mes_new ..) (by decide) (by decide) (by decide) hO3 hAp3 (by rw [List.length_map]; omega) (lines_ok hln HX.out) (by show _ ≤ (262144 : Int); omega)).mono ?_
  intro e w4 hL
  obtain ⟨st4, j4, xs4, row4, lv4, rfl, hJ4, hH4, hM4, hr4, hc4, hl4, ht4, hb4, hF4, hR4, hV4⟩ := hL.calm rfl hJ3 (by rw [hbas]; exact hB3.size)
  have hB4 := hB3.trans hb4
  have hM4 := hM4.mono (B' := 700) (c' := 3) (by omega) (by omega)
  clear hL hJ3 hO3 hAp3 hB3 hb4 hF4 hR4 hV4 hg3
  go_wp2_with fail
  refine (num_any 0 _).mono ?_
  rintro e w' ⟨rfl, rfl⟩
  have hP4 := (hB4.block w.heap.size (by omega)).trans hP.out
  have k0 : w4.cell? ⟨w.heap.size, 0, none⟩ = some (.int .i64 262144) := blk_cell hP4 0
  have k1 : w4.cell? ⟨w.heap.size, 1, none⟩ = some (.int .i64 0) := blk_cell hP4 1
  have k2 : w4.cell? ⟨w.heap.size, 2, none⟩ = some (.int .i64 0) := blk_cell hP4 2
  have k3 : w4.cell? ⟨w.heap.size, 3, none⟩ = some (.int .i64 0) := blk_cell hP4 3
  clear hP4
  go_wp2_with fail
  have hA5 := (Below.refl w4.heap.size w4).alloc (Nat.le_refl _) (Obj.cells #[.int .i64 262144, .int .i64 2, .int .i64 0, .int .i64 0] 28)
  have hQ5 : (w4.alloc (.cells #[.int .i64 262144, .int .i64 2, .int .i64 0, .int .i64 0] 28)).heap[w4.heap.size]? = some (.cells #[.int .i64 262144, .int .i64 2, .int .i64 0, .int .i64 0] 28 (0, 0)) := World.alloc_heap_new w4 _
  have hlt4 := hJ4.lt
  have hs4 := hB4.size
  have hT5 := (hJ4.below hA5).tape
  have hB5 := hB4.trans (hA5.mono (by omega))
  generalize w4.alloc (.cells #[.int .i64 262144, .int .i64 2, .int .i64 0, .int .i64 0] 28) = w5 at *
  have hq5 : w4.heap.size < w5.heap.size := blk_lt hQ5
  have hqb : bas ≤ w4.heap.size := by omega
  generalize w4.heap.size = q at *
  have hqg : q ≠ g := by omega
  have hqr : row4 ≠ some q := fun e => by have := hlt4.2.2 q e; omega
  have hr4b : st4.room = 262144 := hr4
  clear hA5 hJ4 hlt4 hs4 hr4
  refine (fall_glue bas g row4 st4 700 3 262144 2 0 0 w5 hT5 hM4 (by decide) (by decide)).mono ?_
  rintro e w6 ⟨rfl, row6, hT6, hR6, hF6, hM6⟩
  have hB6 := hB5.trans (fr_below hT5 (by omega) hF6)
  obtain ⟨hQ6, hqr6⟩ := fr_far hq5 hqg hqr hF6 hR6
  rw [hQ5] at hQ6
  have hH6 := hH4.fall 262144 2 0 0
  have hrm6 : (fallF st4 262144 2 0 0).room = 262144 := rfl
  generalize fallF st4 262144 2 0 0 = st6 at *
  clear hQ5 hT5 hR6 hF6 hB5 hqr hq5 hM4 hH4 k0 k1 k2 k3
  have hg6 := hg0.below hB6 h80
  go_wp2_with fail
  refine (open_glue bas g row6 st6 j4 xs4 700 0 _ hg6 (by rw [hbas]; exact hB6.size) hT6 hH6 hM6 (by decide) (by decide)).mono ?_
  rintro e w7 ⟨lv7, rfl, hJ7, hb7, hlv7⟩
  have hq6 : q < w6.heap.size := blk_lt hQ6
  have hQ7 := (hb7.block q hq6).trans hQ6
  have hB7 := hB6.trans (hb7.mono (by rw [hbas]; exact hB6.size))
  have hf7 : Far q w6.heap.size g row6 lv7 := ⟨by omega, hqg, hqr6, fun e => by have := hlv7 q e; omega⟩
  generalize w6.heap.size = b7 at *
  clear hT6 hB6 hQ6 hb7 hlv7 hg6 hqr6 hq6
  go_wp2_with fail
  refine (hln.line a _ ha).mono ?_
  rintro e w8 ⟨rfl, hb8⟩
  have hq7 : q < w7.heap.size := blk_lt hQ7
  have hQ8 := (hb8.block q hq7).trans hQ7
  have hB8 := hB7.trans (hb8.mono (by rw [hbas]; exact hB7.size))
  have hJ8 := hJ7.below hb8
  have hg8 := hg0.below hB8 h80
  have hla := hln.ok a ha
  clear hJ7 hQ7 hB7 hb8 hq7
  go_wp2_with fail
  have hsa : sizeL [lb (ln a)] = (ln a).size + 8 := rfl
  refine (note_glue bas b7 g row6 lv7 st6 j4 xs4 700 0 (ln a) _ hg8 h80 (by rw [hbas]; exact hB8.size) hJ8 hH6 hM6 (by decide) (by omega) (by omega) (by rw [hl4]; simp; omega) hla.2 (by rw [hrm6, hsa]; omega)).mono ?_
  rintro e w9 ⟨st9, j9, code, row9, lv9, rfl, hJ9, hR9, hF9, hV9, hO9, hM9, hr9, _⟩
  have hq8 : q < w8.heap.size := blk_lt hQ8
  obtain ⟨hQ9, hf9⟩ := far_call hq8 hf7 hF9 hR9 hV9
  rw [hQ8] at hQ9
  have hB9 := hB8.trans (hJ8.frame (by rw [hbas]; exact hB8.size) hF9)
  have hM9b := hM9.mono (B' := 800) (c' := 3) (by omega) (by omega)
  have hP9 := (hB9.block w.heap.size (by omega)).trans hP.out
  have hT9 := hJ9.tape
  have hqg9 := hf9.2.1
  have hqr9 := hf9.2.2.1
  clear hJ8 hQ8 hB8 hg8 hF9 hR9 hV9 hM9 hJ9 hf9 hf7 hM6 hH6 hsa hq8
  have k0 : w9.cell? ⟨w.heap.size, 0, none⟩ = some (.int .i64 262144) := blk_cell hP9 0
  have k1 : w9.cell? ⟨w.heap.size, 1, none⟩ = some (.int .i64 0) := blk_cell hP9 1
  have k2 : w9.cell? ⟨w.heap.size, 2, none⟩ = some (.int .i64 0) := blk_cell hP9 2
  have k3 : w9.cell? ⟨w.heap.size, 3, none⟩ = some (.int .i64 0) := blk_cell hP9 3
  have HQ9 := Lib.hid hQ9
  have HP9 := Lib.hid hP9
  clear hQ9 hP9
  go_wp2_with ((with_reducible refine gate_store (t := 28) rfl ?_); refine store_plan rfl rfl _ _ rfl q rfl 262144 0 0 0 rfl _ _ _ _ HQ9.out ?_; refine (fun h : Hid _ => h.out) ?_)
  obtain ⟨hgr, hQ10⟩ := grown_row (cs := #[.int .i64 262144, .int .i64 0, .int .i64 0, .int .i64 0]) HQ9.out
  have hT10 := tape_grown hT9 hgr hqg9 hqr9
  have hB10 := hB9.grown hgr (by rw [hbas]; exact hB9.size) (fun k e => by cases e; exact hqb)
  generalize w9.setRow q #[.int .i64 262144, .int .i64 0, .int .i64 0, .int .i64 0] = w10 at *
  clear hT9 hgr hB9 HQ9 HP9 k0 k1 k2 k3
  refine Lib.hid ?_
  have q0 : w10.cell? ⟨q, 0, none⟩ = some (.int .i64 262144) := blk_cell hQ10 0
  have q1 : w10.cell? ⟨q, 1, none⟩ = some (.int .i64 0) := blk_cell hQ10 1
  have q2 : w10.cell? ⟨q, 2, none⟩ = some (.int .i64 0) := blk_cell hQ10 2
  have q3 : w10.cell? ⟨q, 3, none⟩ = some (.int .i64 0) := blk_cell hQ10 3
  have f2 : w10.frozen? ⟨q, 2, none⟩ = false := blk_frozen hQ10 2
  have f3 : w10.frozen? ⟨q, 3, none⟩ = false := blk_frozen hQ10 3
  go_wp2_with fail
  have hT11 := tape_set (tape_set hT10 hqg9 hqr9 2 (.int .i64 keep)) hqg9 hqr9 3 (.int .i64 torn)
  have hB11 := (hB10.setCell (p := ⟨q, 2, none⟩) hqb (.int .i64 keep)).setCell (p := ⟨q, 3, none⟩) hqb (.int .i64 torn)
  generalize (w10.setCell ⟨q, 2, none⟩ (.int .i64 keep)).setCell ⟨q, 3, none⟩ (.int .i64 torn) = w11 at *
  clear hT10 hB10 q0 q1 q2 q3 f2 f3 hQ10 hqg9 hqr9 hqb hqg
  refine (fall_glue bas g row9 st9 800 3 262144 0 keep torn w11 hT11 hM9b (by decide) (by decide)).mono ?_
  rintro e w12 ⟨rfl, row12, hT12, _, hF12, hM12⟩
  have hB12 := hB11.trans (fr_below hT11 (by rw [hbas]; exact hB11.size) hF12)
  obtain ⟨j8, xs8, hH12, hcase, ht8⟩ := out_fall hO9 262144 0 keep torn
  have hrm12 : (fallF st9 262144 0 keep torn).room = 262144 := rfl
  have hcr12 : (fallF st9 262144 0 keep torn).crash = 0 := rfl
  generalize fallF st9 262144 0 keep torn = st12 at *
  clear hT11 hB11 hF12 hO9 hM9b
  have HCS := Lib.hid hcase
  have hL8 : j8.lines.length ≤ 13 := by
    have e1 : j4.lines.length ≤ 12 := by rw [hl4]; simp; omega
    rcases hcase with ⟨_, q⟩ | ⟨_, q | q⟩
    · rw [q, List.length_append]; simp only [List.length_singleton]; omega
    · rw [q]; omega
    · rw [q, List.length_append]; simp only [List.length_singleton]; omega
  clear hcase
  have hg12 := hg0.below hB12 h80
  go_wp2_with fail
  refine (open_glue bas g row12 st12 j8 xs8 800 0 _ hg12 (by rw [hbas]; exact hB12.size) hT12 hH12 hM12 (by decide) (by decide)).mono ?_
  rintro e w13 ⟨lv13, rfl, hJ13, hb13, _⟩
  have hB13 := hB12.trans (hb13.mono (by rw [hbas]; exact hB12.size))
  generalize w12.heap.size = b13 at *
  clear hT12 hB12 hb13 hg12
  go_wp2_with fail
  refine (num_any 0 _).mono ?_
  rintro e w' ⟨rfl, rfl⟩
  go_wp2_with fail
  have hW13 : Below w.heap.size w w13 := HA0.out.trans (hB13.mono (by omega))
  have HR13 := Lib.hid (Kd.C_below HR.out hW13)
  have HJ13 := Lib.hid hJ13
  have HB13 := Lib.hid hB13
  have hs13 := hB13.size
  have hg13 := hg0.below hB13 h80
  clear hJ13 hB13 hW13
  refine (hln.lines xs A c _ HX.out (by omega) HR13.out HC.out).mono ?_
  rintro e w14 ⟨v14, rfl, hO14, hb14⟩
  go_wp2_with fail
  refine (hln.lines xs A c _ HX.out (by omega) (Kd.C_below HR13.out hb14) HC.out).mono ?_
  rintro e w15 ⟨v15, rfl, hO15, hb15⟩
  have hO14a : OwnLines w15 w13.heap.size v14 _ := pw_own_below hO14 hb15
  have hb15a := hb14.trans (hb15.mono hb14.size)
  have hO15a : OwnLines w15 w13.heap.size v15 _ := own_weaken hO15 hb14.size
  have hap : Apt v14 0 0 none v15 := fun k hk => ⟨by have := own_bound hO14 k hk; have := hg13.many; omega, by have := own_bound hO14 k hk; have := hg13.many; omega, by simp, fun e => by have := own_bound hO15 k e; have := own_lt hO14 k hk; omega⟩
  clear hO14 hb14 hO15 hb15
  go_wp2_with fail
  refine (hln.line a _ ha).mono ?_
  rintro e w16 ⟨rfl, hb16⟩
  have hA16 := (Below.refl w16.heap.size w16).alloc (Nat.le_refl _) (Obj.cells #[.string (ln a)] 9)
  have hb16a := hb16.trans (hA16.mono hb16.size)
  have HO15 := Lib.hid (show (w16.alloc (.cells #[.string (ln a)] 9)).ownsRow w13.heap.size 9 1 v15 (xs.map ln).length ((xs.map ln).map Value.string) from pw_own_below hO15a hb16a)
  have HO14 := Lib.hid (show OwnLines (w16.alloc (.cells #[.string (ln a)] 9)) w13.heap.size v14 (xs.map ln) from pw_own_below hO14a hb16a)
  have HB16 := Lib.hid (hb15a.trans (hb16a.mono hb15a.size))
  have HSZ := Lib.hid (HB16.out.size)
  have HAP := Lib.hid hap
  have HLN := Lib.hid (show (xs.map ln).length ≤ 12 by rw [List.length_map]; omega)
  obtain ⟨i0, hi, hz0, hz1, hz2⟩ := info_parts info9
  have Hi := Lib.hid hi
  have Hz0 := Lib.hid hz0
  have Hz1 := Lib.hid hz1
  have Hz2 := Lib.hid hz2
  clear hi hz0 hz1 hz2 hb15a hb16 hA16 hb16a hO14a hO15a hap
  go_wp2_with (at_builtin; refine wpList_append_own_at _ rfl _ _ 34 rfl w13.heap.size 9 i0 (.string ⟨#[]⟩) 1 16 Tryd.underlying34 Hi.out Hz0.out Hz1.out Hz2.out rfl (by decide) _ _ _ rfl HO15.out ⟨w16.heap.size, 0, none⟩ 1 1 [.string (ln a)] rfl rfl (cell_one_new _ _ _) (by intro u hu; simp at hu; subst hu; rfl) (by have := HLN.out; unfold maxLen; omega) (by have := HLN.out; omega) HSZ.out ?_; intro v17 w17 hown17 hgrow17 hnil17 hat17; have HOWN := Lib.hid hown17; have HGR := Lib.hid hgrow17; have HAT := Lib.hid hat17; clear hown17 hgrow17 hnil17 hat17)
  have hO17m : OwnLines w17 w13.heap.size v17 (xs.map ln ++ [ln a]) := by
    unfold OwnLines
    rw [List.length_append, List.map_append]
    exact HOWN.out
  have hO17l : OwnLines w17 w13.heap.size v14 (xs.map ln) := own_move2 HO14.out fun k hk => (show World.grownBy _ w17 v15.ownBlock from HGR.out).block k (own_lt HO14.out k hk) (fun e => (HAP.out k hk).2.2.2 e.symm)
  have hcur : Below w13.heap.size w13 w17 := below_grown (v := v15) HB16.out HSZ.out (show OwnLines _ w13.heap.size v15 (xs.map ln) from HO15.out) HGR.out
  clear HOWN HGR HAT HO15 HO14 HB16 HSZ HAP Hi Hz0 Hz1 Hz2
  refine (lines_glue (HJ13.out.below hcur) (by omega)).mono ?_
  rintro e w18 ⟨v18, rfl, hO18, hb18⟩
  have hO18m : OwnLines w18 w13.heap.size v17 (xs.map ln ++ [ln a]) := pw_own_below hO17m hb18
  have hO18l : OwnLines w18 w13.heap.size v14 (xs.map ln) := pw_own_below hO17l hb18
  have hO18b : OwnLines w18 w13.heap.size v18 (j8.lines.map bs) := own_weaken hO18 hcur.size
  have hb1318 := hcur.trans (hb18.mono hcur.size)
  have hlen8 : (j8.lines.map bs).length ≤ 13 := by rw [List.length_map]; exact hL8
  have e4 : j4.lines.map bs = xs.map ln := by rw [hl4, map_bs_lb]
  obtain ⟨dl, dm, hdl, hdm, hcs⟩ : ∃ dl dm, decide (j8.lines.map bs = xs.map ln) = dl ∧ decide (j8.lines.map bs = xs.map ln ++ [ln a]) = dm ∧ (code = 0 ∧ dl = false ∧ dm = true ∨ code = 16 ∧ (dl = true ∧ dm = false ∨ dl = false ∧ dm = true)) := by
    have hne : xs.map ln ≠ xs.map ln ++ [ln a] := fun e => by
      have := congrArg List.length e
      rw [List.length_append, List.length_singleton] at this
      omega
    have eL : j8.lines = j4.lines ++ [lb (ln a)] → j8.lines.map bs = xs.map ln ++ [ln a] := fun e => by
      rw [e, List.map_append, e4]
      simp only [List.map_cons, List.map_nil, bs_lb]
    refine ⟨_, _, rfl, rfl, ?_⟩
    rcases HCS.out with ⟨h0, h1⟩ | ⟨h0, h1 | h1⟩
    · refine .inl ⟨h0, ?_, ?_⟩
      · rw [eL h1]; exact decide_eq_false (fun e => hne e.symm)
      · rw [eL h1]; exact decide_eq_true rfl
    · refine .inr ⟨h0, .inl ⟨?_, ?_⟩⟩
      · rw [h1, e4]; exact decide_eq_true rfl
      · rw [h1, e4]; exact decide_eq_false hne
    · refine .inr ⟨h0, .inr ⟨?_, ?_⟩⟩
      · rw [eL h1]; exact decide_eq_false (fun e => hne e.symm)
      · rw [eL h1]; exact decide_eq_true rfl
  have HTL := Lib.hid (texts_on hO18b hO18l (by omega) dl hdl)
  have HTM := Lib.hid (texts_on hO18b hO18m (by omega) dm hdm)
  have HO18 := Lib.hid hO18b
  have HB1318 := Lib.hid hb1318
  have hcur2 : Below w18.heap.size w18 w18 := Below.refl _ _
  clear hO17m hO17l hO18m hO18l hO18b hO18 hb18 hcur hb1318 hdl hdm HCS e4
  rcases hcs with ⟨rfl, rfl, rfl⟩ | ⟨rfl, ⟨rfl, rfl⟩ | ⟨rfl, rfl⟩⟩
  all_goals
    go_wp2_with (first | (go_at_call 13; refine (num_any _ _).mono ?_; rintro e w' ⟨rfl, rfl⟩) | (go_at_call 18; (with_reducible refine (HTL.out _ hcur2).mono ?_); rintro e w' ⟨rfl, hcur3⟩; replace hcur2 := hcur3; clear hcur3) | (go_at_call 18; (with_reducible refine (HTM.out _ hcur2).mono ?_); rintro e w' ⟨rfl, hcur3⟩; replace hcur2 := hcur3; clear hcur3))
  all_goals
    rename_i wn
    have hB18 := HB1318.out.trans (hcur2.mono HB1318.out.size)
    have hBn := HB13.out.trans (hB18.mono (by omega))
    refine (hln.line b _ hb).mono ?_
    rintro e w20 ⟨rfl, hb20⟩
    have hB20 := hB18.trans (hb20.mono hB18.size)
    have hJ20 := HJ13.out.below hB20
    have hB0 := HB13.out.trans (hB20.mono (by omega))
    have hO20 : OwnLines w20 w13.heap.size v18 (j8.lines.map bs) := pw_own_below (pw_own_below HO18.out hcur2) hb20
    have hAp20 : Apt v18 b13 g row12 lv13 := apt_fresh HJ13.out (own_bound HO18.out)
    clear hB18 hBn hb20 hcur2
    go_wp2_with fail
    have hlb := hln.ok b hb
    have hsb : sizeL [lb (ln b)] = (ln b).size + 8 := rfl
    refine (note_glue bas b13 g row12 lv13 st12 j8 xs8 800 0 (ln b) _ (hg0.below hB0 h80) h80 (by rw [hbas]; exact hB0.size) hJ20 hH12 hM12 (by decide) (by omega) (by omega) (by omega) hlb.2 (by rw [hrm12, hsb]; omega)).mono ?_
    intro e w21 hL
    obtain ⟨st21, j21, xs21, row21, lv21, rfl, hJ21, hH21, hM21, hr21, hc21, hl21, ht21, hb21, hF21, hR21, hV21⟩ := hL.calm hcr12 hJ20 (by rw [hbas]; exact hB0.size)
    obtain ⟨hO21, hAp21⟩ := held_call hO20 hAp20 hF21 hR21 hV21
    have hs21 := hb21.size
    have hM21b := hM21.mono (B' := 900) (c' := 3) (by omega) (by omega)
    have hB21 := hB0.trans hb21
    have hP21 := (hB21.block w.heap.size (by omega)).trans hP.out
    have k0 : w21.cell? ⟨w.heap.size, 0, none⟩ = some (.int .i64 262144) := blk_cell hP21 0
    have k1 : w21.cell? ⟨w.heap.size, 1, none⟩ = some (.int .i64 0) := blk_cell hP21 1
    have k2 : w21.cell? ⟨w.heap.size, 2, none⟩ = some (.int .i64 0) := blk_cell hP21 2
    have k3 : w21.cell? ⟨w.heap.size, 3, none⟩ = some (.int .i64 0) := blk_cell hP21 3
    have hT21 := hJ21.tape
    clear hL hJ20 hB0 hO20 hAp20 hM21 hr21 hb21 hF21 hR21 hV21 hsb hJ21 hP21
    go_wp2_with fail
    refine (fall_glue bas g row21 st21 900 3 262144 0 0 0 w21 hT21 hM21b (by decide) (by decide)).mono ?_
    rintro e w22 ⟨rfl, row22, hT22, _, hF22, hM22⟩
    have hB22 := hB21.trans (fr_below hT21 (by rw [hbas]; exact hB21.size) hF22)
    have hO22 : OwnLines w22 w13.heap.size v18 (j8.lines.map bs) := own_move2 hO21 fun k hk => hF22.block k (own_lt hO21 k hk) (hAp21 k hk).2.1 (fun e => (hAp21 k hk).2.2.1 e.symm)
    have hH22 := hH21.fall 262144 0 0 0
    have hs22 := hF22.size
    generalize fallF st21 262144 0 0 0 = st22 at *
    clear hT21 hB21 hF22 hO21 hAp21 hH21 hM21b k0 k1 k2 k3
    go_wp2_with fail
    refine (open_glue bas g row22 st22 j21 xs21 900 0 _ (hg0.below hB22 h80) (by rw [hbas]; exact hB22.size) hT22 hH22 hM22 (by decide) (by decide)).mono ?_
    rintro e w23 ⟨lv23, rfl, hJ23, hb23, _⟩
    have hB23 := hB22.trans (hb23.mono (by rw [hbas]; exact hB22.size))
    have hO23 : OwnLines w23 w13.heap.size v18 (j8.lines.map bs) := pw_own_below hO22 hb23
    have hs23 : w13.heap.size ≤ w23.heap.size := by have := hB20.size; have := hb23.size; omega
    generalize w22.heap.size = b23 at *
    clear hT22 hB22 hb23 hO22
    go_wp2_with (first | (go_at_call 13; refine (num_any _ _).mono ?_; rintro e w' ⟨rfl, rfl⟩))
  all_goals
    have hl21l : j21.lines.map bs = j8.lines.map bs ++ [ln b] := by
      rw [hl21, List.map_append]
      simp only [List.map_cons, List.map_nil, bs_lb]
    refine (lines_glue hJ23 (by rw [hl21, List.length_append]; simp only [List.length_singleton]; omega)).mono ?_
    rintro e w24 ⟨v24, rfl, hO24, hb24⟩
    rw [hl21l] at hO24
    have hN24 : OwnLines w24 w13.heap.size v18 (j8.lines.map bs) := pw_own_below hO23 hb24
    have hB24 := hB23.trans (hb24.mono (by rw [hbas]; exact hB23.size))
    generalize j8.lines.map bs = NN at *
    obtain ⟨A18, c18, rfl⟩ := own_slice hN24
    have hA24 := (Below.refl w24.heap.size w24).alloc (Nat.le_refl _) (Obj.cells #[] 9)
    have HOE := Lib.hid (own_empty w24 w24.heap.size (Nat.le_refl _))
    have HO24 := Lib.hid hO24
    have HN24 := Lib.hid (show OwnLines (w24.alloc (.cells #[] 9)) w13.heap.size (.slice A18 NN.length c18) _ from pw_own_below hN24 hA24)
    have HA24 := Lib.hid hA24
    have HB24 := Lib.hid hB24
    obtain ⟨i0, hi, hz0, hz1, hz2⟩ := info_parts info9
    have Hi := Lib.hid hi
    have Hz0 := Lib.hid hz0
    have Hz1 := Lib.hid hz1
    have Hz2 := Lib.hid hz2
    clear hJ23 hO24 hN24 hB24 hA24 hO23 hB23 hb24 hi hz0 hz1 hz2 hl21 hl21l HTL HTM HO18 HJ13 HB13 HB1318 hH12 hM12 hH22 hM22 HR13
    cases A18 with
    | none =>
      obtain ⟨e1, e2, e3⟩ := own_none_nil HN24.out
      subst e2 e3
      have HC25 := HOE
      have HB25 := HA24
      go_wp2_with fail
      have hB25w := HB24.out.trans (HB25.out.mono (by have := HB24.out.size; omega))
      refine (hln.line b _ hb).mono ?_
      rintro e w26 ⟨rfl, hb26⟩
      have hA26 := (Below.refl w26.heap.size w26).alloc (Nat.le_refl _) (Obj.cells #[.string (ln b)] 9)
      have hb26a := hb26.trans (hA26.mono hb26.size)
      have HO26 := Lib.hid (pw_own_below HC25.out hb26a)
      have HB26 := Lib.hid (HB25.out.trans (hb26a.mono HB25.out.size))
      have HSZ26 := Lib.hid HB26.out.size
      clear hb26 hA26 hb26a hB25w HC25 HB25
      go_wp2_with (at_builtin; refine append_guard _ rfl _ _ 34 rfl w24.heap.size 9 i0 (.string ⟨#[]⟩) 1 16 Tryd.underlying34 Hi.out Hz0.out Hz1.out Hz2.out rfl (by decide) _ _ _ rfl HO26.out ⟨w26.heap.size, 0, none⟩ 1 1 [.string (ln b)] rfl rfl (cell_one_new _ _ _) (by intro u hu; simp at hu; subst hu; rfl) (by skip; unfold maxLen; omega) (by skip; omega) HSZ26.out ?_; intro v27 w27 hown27 hgrow27 hat27; have HOWN27 := Lib.hid hown27; have HGR27 := Lib.hid hgrow27; clear hown27 hgrow27 hat27)
      have hO27 : OwnLines w27 w24.heap.size v27 (([] : List ByteArray) ++ [ln b]) := by
        unfold OwnLines
        rw [List.length_append, List.map_append]
        exact HOWN27.out
      have hB27 : Below w24.heap.size w24 w27 := below_grown (l := ([] : List ByteArray)) HB26.out HSZ26.out HO26.out HGR27.out
      have hO27a : OwnLines w27 w23.heap.size v24 (([] : List ByteArray) ++ [ln b]) := pw_own_below HO24.out hB27
      have hW27 := HA0.out.trans ((HB24.out.trans (hB27.mono (by have := HB24.out.size; omega))).mono (by omega))
      clear HOWN27 HGR27 HO26 HB26 HSZ26 hB27
      refine (texts_own hO27a hO27 (by rw [List.length_append]; skip; simp only [List.length_singleton]; omega)).mono ?_
      rintro e w28 ⟨rfl, hd28⟩
      rw [show decide (([] : List ByteArray) ++ [ln b] = ([] : List ByteArray) ++ [ln b]) = true from decide_eq_true rfl]
      have hW28 := hW27.trans (hd28.below.mono hW27.size)
      clear hO27a hO27 hd28 hW27
      go_wp2_with fail
      refine (awake_any _ (hg.below hW28 h8)).mono ?_
      rintro e w29 ⟨rfl, hb29⟩
      have hW29 := hW28.trans (hb29.mono hW28.size)
      clear hb29 hW28
      go_wp2
      go_ret
      exact ⟨rfl, hW29⟩
    | some ad =>
      have HNW := Lib.hid (own_news HN24.out).2
      go_wp2_with (at_builtin; refine append_guard _ rfl _ _ 34 rfl w24.heap.size 9 i0 (.string ⟨#[]⟩) 1 16 Tryd.underlying34 Hi.out Hz0.out Hz1.out Hz2.out rfl (by decide) _ _ _ rfl HOE.out ad NN.length c18 (NN.map Value.string) rfl (by simp) HNW.out (by intro u hu; simp at hu; obtain ⟨y, _, rfl⟩ := hu; rfl) (by unfold maxLen; omega) (by omega) (by simp) ?_; intro v25 w25 hown25 hgrow25 hat25; have HOWN := Lib.hid hown25; have HGR := Lib.hid hgrow25; clear hown25 hgrow25 hat25)
      have HC25 := Lib.hid (show w25.ownsRow w24.heap.size 9 1 v25 NN.length (NN.map Value.string) by have := HOWN.out; simpa using this)
      have HB25 := Lib.hid (HA24.out.grown (show World.grownBy _ w25 (some w24.heap.size) from HGR.out) (by simp) (fun k e => by cases e; exact Nat.le_refl _))
      clear HOWN HGR HNW
      have hB25w := HB24.out.trans (HB25.out.mono (by have := HB24.out.size; omega))
      refine (hln.line b _ hb).mono ?_
      rintro e w26 ⟨rfl, hb26⟩
      have hA26 := (Below.refl w26.heap.size w26).alloc (Nat.le_refl _) (Obj.cells #[.string (ln b)] 9)
      have hb26a := hb26.trans (hA26.mono hb26.size)
      have HO26 := Lib.hid (pw_own_below HC25.out hb26a)
      have HB26 := Lib.hid (HB25.out.trans (hb26a.mono HB25.out.size))
      have HSZ26 := Lib.hid HB26.out.size
      clear hb26 hA26 hb26a hB25w HC25 HB25
      go_wp2_with (at_builtin; refine append_guard _ rfl _ _ 34 rfl w24.heap.size 9 i0 (.string ⟨#[]⟩) 1 16 Tryd.underlying34 Hi.out Hz0.out Hz1.out Hz2.out rfl (by decide) _ _ _ rfl HO26.out ⟨w26.heap.size, 0, none⟩ 1 1 [.string (ln b)] rfl rfl (cell_one_new _ _ _) (by intro u hu; simp at hu; subst hu; rfl) (by skip; unfold maxLen; omega) (by skip; omega) HSZ26.out ?_; intro v27 w27 hown27 hgrow27 hat27; have HOWN27 := Lib.hid hown27; have HGR27 := Lib.hid hgrow27; clear hown27 hgrow27 hat27)
      have hO27 : OwnLines w27 w24.heap.size v27 (NN ++ [ln b]) := by
        unfold OwnLines
        rw [List.length_append, List.map_append]
        exact HOWN27.out
      have hB27 : Below w24.heap.size w24 w27 := below_grown (l := NN) HB26.out HSZ26.out HO26.out HGR27.out
      have hO27a : OwnLines w27 w23.heap.size v24 (NN ++ [ln b]) := pw_own_below HO24.out hB27
      have hW27 := HA0.out.trans ((HB24.out.trans (hB27.mono (by have := HB24.out.size; omega))).mono (by omega))
      clear HOWN27 HGR27 HO26 HB26 HSZ26 hB27
      refine (texts_own hO27a hO27 (by rw [List.length_append]; skip; simp only [List.length_singleton]; omega)).mono ?_
      rintro e w28 ⟨rfl, hd28⟩
      rw [show decide (NN ++ [ln b] = NN ++ [ln b]) = true from decide_eq_true rfl]
      have hW28 := hW27.trans (hd28.below.mono hW27.size)
      clear hO27a hO27 hd28 hW27
      go_wp2_with fail
      refine (awake_any _ (hg.below hW28 h8)).mono ?_
      rintro e w29 ⟨rfl, hb29⟩
      have hW29 := hW28.trans (hb29.mono hW28.size)
      clear hb29 hW28
      go_wp2
      go_ret
      exact ⟨rfl, hW29⟩
end Go.Proofs.YtepcagakegbjfaaDoor
namespace Go.Proofs.YtepcagakegbjfaaDoor.journalTorn
open Go.ChangeShapes Go.WideShapes Go.ChangeAt Go.RowKit
open Go.ChangeMaps (open_string shut_string)
set_option linter.unusedVariables false

theorem own : ownKnob Tryd.prog.godebug = none := by kernel_rfl

set_option maxRecDepth 100000 in
theorem lifted (os : Os) (started : os.Started) (H : Type) (enc : TypeId × Value → H) :
    ReturnsInHanded {} Tryd.checked os 9 .any (fun w args => (Rows.journalTornSpec.pre enc Tryd.prog Tryd.f9 Rows.journalTornRow.domain false w args ∧ laidMetH Tryd.prog Rows.journalTornRow.laid w) ∧ sizedMet enc Tryd.prog Tryd.f9 (OpenSpec.ofChange Rows.journalTornSpec) false w args)
      (Rows.journalTornSpec.post enc Tryd.prog Tryd.f9 false true false false) := by
  refine handed_both (C := Tryd.checked) (X := fun w _ => laidMetH Tryd.prog Rows.journalTornRow.laid w) (fun _ _ _ hh h => h.of_heap hh) own started (by kernel_rfl) Tryd.func9
    (ChangeSpec.witness_shaped (enc := enc) (C := Tryd.checked) (os := os) (X := fun w _ => laidMetH Tryd.prog Rows.journalTornRow.laid w) false (World.laidAll Tryd.prog os Rows.journalTornRow.laid) #[.slice none 0 0, .int .u8 0, .int .u8 0, .int .i64 0, .int .i64 0] 8 (World.laidAll_os _ _ _)
      (World.shaped_of_ZipB (by kernel_rfl) (by kernel_rfl)) (by kernel_rfl) (by kernel_rfl) (by kernel_rfl)
      (by rw [MakeChecks.laidMetH_plain _ _ _ (by kernel_rfl)]; exact laidMet_laidAll _ (by kernel_rfl) (by kernel_rfl))) ?_
  intro W base args ds gs before hval0 hW hS hL
  have hval : ∀ (j : Nat) t v, Tryd.f9.params[j]? = some t → args[j]? = some v → Value.okWide Tryd.prog W .any base t v := hval0
  have hW' := hW
  obtain ⟨p, q, hA0, hV, rfl, hfz, hnd⟩ := hW
  have hA : DataW.TrodAll enc Tryd.prog W 0 (fun _ => true) true Tryd.f9.params.toList args.toList ds p := hA0
  rw [Tryd.params9] at hA hval
  obtain ⟨v0, vs0, d0, ds0, p0, q0, hargs, rfl, rfl, h0, r0⟩ := trodAll_cons hA
  obtain ⟨v1, vs1, d1, ds1, p1, q1, rfl, rfl, rfl, h1, r1⟩ := trodAll_cons r0
  obtain ⟨v2, vs2, d2, ds2, p2, q2, rfl, rfl, rfl, h2, r2⟩ := trodAll_cons r1
  obtain ⟨v3, vs3, d3, ds3, p3, q3, rfl, rfl, rfl, h3, r3⟩ := trodAll_cons r2
  obtain ⟨v4, vs4, d4, ds4, p4, q4, rfl, rfl, rfl, h4, r4⟩ := trodAll_cons r3
  obtain ⟨rfl, rfl, rfl⟩ := trodAll_nil r4
  obtain rfl : args = #[v0, v1, v2, v3, v4] := by cases args; simp_all
  obtain ⟨rfl, rfl⟩ := trodVars_none hV
  have k0 := h0
  have lt0 : ∀ x ∈ p0, x.block < W.heap.size := by obtain ⟨m, hm⟩ := k0; exact DataW.trod_lt m _ _ _ hm
  obtain ⟨xs, A, c, rfl, hc, hC, hU⟩ := bytes_open (okWide_slice Tryd.underlying35 (hval 0 35 v0 rfl rfl)) h0
  obtain ⟨a1, rfl, rfl, rfl, w1⟩ := open_int Tryd.underlying5 (hval 1 5 v1 rfl rfl) h1
  obtain ⟨a2, rfl, rfl, rfl, w2⟩ := open_int Tryd.underlying5 (hval 2 5 v2 rfl rfl) h2
  obtain ⟨a3, rfl, rfl, rfl, w3⟩ := open_int Tryd.underlying3 (hval 3 3 v3 rfl rfl) h3
  obtain ⟨a4, rfl, rfl, rfl, w4⟩ := open_int Tryd.underlying3 (hval 4 3 v4 rfl rfl) h4
  clear hA0 hval0
  refine (torn_any lineI lineSpec xs A c a1 a2 a3 a4 hU (u8_of w1) (u8_of w2) W (gl_of hL hS) hC hc).mono fun e W' ⟨he, bel⟩ => ?_
  subst he
  exact ⟨_, rfl, _, _, _, [], _, [], hW', trodAll_mk1 (shut_bool Tryd.underlying4 _), (trodAll_cons_mk (Below.trod laidOut (by kernel_rfl) (of_decide_eq_true (by kernel_rfl)) k0 bel lt0) (trodAll_cons_mk (shut_int Tryd.underlying5 w1) (trodAll_cons_mk (shut_int Tryd.underlying5 w2) (trodAll_cons_mk (shut_int Tryd.underlying3 w3) (trodAll_cons_mk (shut_int Tryd.underlying3 w4) trodAll_mk0))))), rfl, bel.frame _, fun h => by cases h⟩

/-- The row's statement. -/
theorem row_holds : Rows.JournalTornSaid :=
  OpenClaim.holds_of_wide 9 Tryd.f9 rfl rfl rfl rfl rfl rfl rfl ⟨rfl, rfl, rfl, rfl, rfl⟩ rfl rfl rfl rfl rfl (by kernel_rfl) Tryd.func9 (by kernel_rfl)
    (of_decide_eq_true (by kernel_rfl)) (by unfold Func.isWrapper; first | (rw [if_pos (by decide +kernel)]; kernel_rfl) | (rw [if_neg (by decide +kernel)]; exact ⟨rfl, rfl⟩))
    (fun os started H enc _ => lifted os started H enc)
/-- The statement: the tied card. -/
theorem proved : Rows.JournalTornCardSaid :=
  Claim7.holds_tied_plain_at .later [] [.data, .data, .data, .data, .sentinel, .sentinel, .pinned] true (true, "da1c6e6e57c94f45f9efa7391f33bfb80085fc88f3d189c72144fcdf8e4489a7") true
    row_holds (fun _ h => by cases h) (by kernel_rfl) (fun _ h => by cases h) journalTorn_row_tie rfl ⟨rfl, rfl⟩ (by kernel_rfl) rfl
    (fun f fn hf hfn => by
      obtain rfl : f = 9 := Option.some.inj ((show Tryd.prog.funcNamed Rows.journalTornRow.func = some 9 by kernel_rfl).symm.trans hf) |>.symm
      obtain rfl : fn = Tryd.f9 := (Option.some.inj (Tryd.func9.symm.trans hfn)).symm
      exact ⟨by kernel_rfl, fun j t ht => by
        rw [Tryd.params9] at ht
        have hall : ∀ t ∈ [35, 5, 5, 3, 3], Tryd.prog.wantsStandIn t = false := by
          intro t ht
          simp only [List.mem_cons, List.mem_nil_iff, or_false] at ht
          rcases ht with rfl | rfl | rfl | rfl | rfl <;> kernel_rfl
        refine hall t (List.mem_of_getElem? (l := [35, 5, 5, 3, 3]) (i := j) ?_)
        simpa using ht⟩)
    (by kernel_rfl)
end Go.Proofs.YtepcagakegbjfaaDoor.journalTorn
#print axioms Go.Proofs.YtepcagakegbjfaaDoor.journalTorn.proved
