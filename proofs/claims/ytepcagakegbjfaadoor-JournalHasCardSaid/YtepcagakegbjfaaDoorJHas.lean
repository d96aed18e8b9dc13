/- What was saved last in a journal, and noted since, is there, also when it is opened anew: for every list of lists of numbers and list of truths; package variables of Go as its own text lays them; no other condition. -/
import Derived.Test.YtepcagakegbjfaaDoorGg
import Derived.Test.YtepcagakegbjfaaDoorGf
import Derived.Test.YtepcagakegbjfaaDoorTie
import Derived.Test.YtepcagakegbjfaaDoorCards
import Derived.WalkKit
import Derived.ProofKit
import Derived.OpenShut
import Derived.ShutString
import Derived.ChangeOld
import Derived.Below
import Derived.LaidMore
import Derived.Lay
import Derived.SevenTiedAt
import Derived.Stop.Joined
/- JournalHas. -/
namespace Go.Proofs.YtepcagakegbjfaaDoor
open Go.RowKit Go.Proofs.YtepcagakegbjfaaDoorW.PrintWords
open Jr (bs lb bs_lb lb_bs bs_app okLine TapeSt addF sealF wipeF fallF newSt Has Mes Out Down Jn Sd sizeL)

/-- Between two rounds of a law that saves and notes. -/
structure HasInv (w wr : World) (g b k : Nat) (row : Option Nat) (lv v : Value) (st : TapeSt) (j : Jn) (xs : List Jr.S) (L : List ByteArray) : Prop where
  own : OwnLines wr w.heap.size v L
  apt : Apt v b g row lv
  jat : Jat wr w.heap.size b g row lv st j
  has : Has st j xs
  mes : Mes st (k * 700) (k * 3)
  lines : j.lines = L.map lb
  len : L.length ≤ 12 + k
  turn : j.turn ≤ k
  room : st.room = 262144
  crash : st.crash = 0
  below : Below w.heap.size w wr
set_option maxRecDepth 100000 in
set_option maxHeartbeats 3200000 in
theorem has_any (ln : Int → ByteArray) (hln : LineSpec ln) (xss : List (List Int)) (bl : List Bool) (A B : Option Addr) (c d : Nat) (w : World) (hg : Gl w) (hr : RowsAt w (.slice A xss.length c) xss) (hb : BoolsAt w (.slice B bl.length d) bl) :
    Calls Tryd.prog 3 #[.slice A xss.length c, .slice B bl.length d] w fun e w' => e = .returned (.bool true) ∧ Below w.heap.size w w' := by
  have h8 := hg.many
  have done : ∀ w1, Below w.heap.size w w1 → Calls Tryd.prog 10 #[] w1 fun e w' => e = .returned (.bool true) ∧ Below w.heap.size w w' := fun w1 hb => (awake_any _ (hg.below hb h8)).mono fun e w' ⟨h1, h2⟩ => ⟨h1, hb.trans (h2.mono hb.size)⟩
  have DONE := Lib.hid done
  have HRW := Lib.hid hr
  have HBW := Lib.hid hb
  clear done hr hb
  by_cases h1 : 12 < xss.length
  · have h1b : decide ((12 : Int) < (xss.length : Int)) = true := decide_eq_true (by omega)
    go_enter Tryd.func3, Tryd.ntmps3
    go_wp2_with fail
    refine (DONE.out _ (Below.refl _ _)).mono ?_
    rintro e w1 ⟨rfl, hb1⟩
    go_wp2
    go_ret
    exact ⟨rfl, hb1⟩
  have h1b : decide ((12 : Int) < (xss.length : Int)) = false := decide_eq_false (by omega)
  by_cases h2 : bl.length < xss.length
  · have h2b : decide ((bl.length : Int) < (xss.length : Int)) = true := decide_eq_true (by omega)
    go_enter Tryd.func3, Tryd.ntmps3
    go_wp2_with fail
    refine (DONE.out _ (Below.refl _ _)).mono ?_
    rintro e w1 ⟨rfl, hb1⟩
    go_wp2
    go_ret
    exact ⟨rfl, hb1⟩
  have h2b : decide ((bl.length : Int) < (xss.length : Int)) = false := decide_eq_false (by omega)
  go_enter Tryd.func3, Tryd.ntmps3
  go_wp2_with fail
  refine (new_any 262144 0 0 0 _).mono ?_
  rintro e w1 ⟨g, rfl, hT, hb1⟩
  go_wp2_with fail
  refine (open_glue w.heap.size g none _ ⟨0, 0, [], false⟩ [] 0 0 _ (hg.below hb1 h8) hb1.size hT (Jr.has_new ..) (mes_new ..) (by decide) (by decide)).mono ?_
  rintro e w2 ⟨lv2, rfl, hJ2, hb2, _⟩
  have hB2 := hb1.trans (hb2.mono hb1.size)
  have HJ2 := Lib.hid hJ2
  have HB2 := Lib.hid hB2
  clear hb1 hb2 hT hB2 hJ2
  generalize w1.heap.size = b2 at *
  go_wp2_with fail
  refine (num_any 0 _).mono ?_
  rintro e w' ⟨rfl, rfl⟩
  go_wp2
  go_loopw [6, 8, 9] (fun p v i wr => ∃ (k b : Nat) (row : Option Nat) (lv : Value) (st : TapeSt) (j : Jn) (xs : List Jr.S) (L : List ByteArray), k ≤ xss.length ∧ p = .pointer (some ⟨b, 0, none⟩) ∧ i = .int .i64 k ∧ Hid (HasInv w wr g b k row lv v st j xs L)) (fun _ _ i _ => xss.length - (intOf i).toNat)
  case atStart => exact ⟨0, b2, none, lv2, _, _, [], [], by omega, rfl, rfl, Lib.hid ⟨own_none _ _, apt_nil _ _ _ _, HJ2.out, Jr.has_new .., (mes_new ..).mono (by omega) (by omega), rfl, by simp, Int.le_refl _, rfl, rfl, HB2.out⟩⟩
  case round =>
    obtain ⟨k, b, row, lv, st, j, xs, L, hk, rfl, rfl, HH⟩ := hrel
    by_cases hlt : k < xss.length
    · obtain ⟨ad, u, eA, hcu, hBu⟩ : ∃ ad u, A = some ad ∧ w.cell? (ad.add k) = some u ∧ BytesAt w u xss[k] := by
        obtain ⟨A', c', e, h⟩ := HRW.out
        injection e with e1
        subst e1
        exact h k hlt
      subst eA
      obtain ⟨Ak, ck, rfl, hck, hCk, hUk⟩ := hBu
      have hblk : (ad.add k).block < w.heap.size := World.block_lt_of_cell? w _ hcu
      have HCU := Lib.hid (show ∀ w', Below w.heap.size w w' → w'.cell? (ad.add k) = some (.slice Ak xss[k].length ck) from fun w' hb => (hb.cell hblk).trans hcu)
      have HCK := Lib.hid hCk
      have HUK := Lib.hid hUk
      have HCC := Lib.hid hck
      clear hcu hCk hUk hck
      generalize xss[k] = ys at *
      have c0 := HCU.out _ HH.out.below
      by_cases hy12 : 12 < ys.length
      · have hyb : decide ((12 : Int) < (ys.length : Int)) = true := decide_eq_true (by omega)
        go_wp2_with fail
        refine (DONE.out _ HH.out.below).mono ?_
        rintro e w1 ⟨rfl, hb1⟩
        go_wp2
        go_ret
        exact ⟨rfl, hb1⟩
      have hyb : decide ((12 : Int) < (ys.length : Int)) = false := decide_eq_false (by omega)
      by_cases hev : ys.length % 2 = 0
      · have hevb : (((ys.length : Nat) : Int).tmod 2 == 0) = true := by rw [beq_iff_eq, Int.tmod_eq_emod_of_nonneg (Int.natCast_nonneg _)]; omega
        go_wp2_with fail
        have hsl := sizeL_lines hln ys HUK.out
        refine (hln.lines ys Ak ck _ HUK.out (by omega) (Kd.C_below HCK.out HH.out.below) HCC.out).mono ?_
        rintro e w3 ⟨v3, rfl, hO3, hb3⟩
        have hJ3 := HH.out.jat.below hb3
        have hB3 := HH.out.below.trans (hb3.mono HH.out.below.size)
        have hAp3 : Apt v3 b g row lv := apt_fresh HH.out.jat (own_bound hO3)
        have hO3w : OwnLines w3 w.heap.size v3 (ys.map ln) := own_weaken hO3 HH.out.below.size
        have htn := HH.out.turn
        have hrm := HH.out.room
        clear hb3 hO3 c0
        go_wp2_with fail
        refine (save_own w.heap.size b g row lv st j xs _ _ v3 _ (ys.map ln) _ (hg.below hB3 h8) h8 hB3.size hJ3 HH.out.has HH.out.mes (by omega) (by omega) (by omega) hO3w hAp3 (by rw [List.length_map]; omega) (lines_ok hln HUK.out) (by rw [hrm]; omega)).mono ?_
        intro e w9 hL
        obtain ⟨stN, jN, xsN, rowN, lvN, rfl, hJ4, hH4, hM4, hr4, hc4, hl4, ht4, hb4, hF4, hR4, hV4⟩ := hL.calm HH.out.crash hJ3 hB3.size
        obtain ⟨hO4, hAp4⟩ := held_call hO3w hAp3 hF4 hR4 hV4
        obtain ⟨vN, hvN⟩ : ∃ vN, vN = v3 := ⟨_, rfl⟩
        obtain ⟨LN, hLN⟩ : ∃ LN, LN = ys.map ln := ⟨_, rfl⟩
        have hlL : LN.length ≤ 12 := by rw [hLN, List.length_map]; omega
        have HI := Lib.hid (show HasInv w w9 g b (k + 1) rowN lvN vN stN jN xsN LN from ⟨by rw [hvN, hLN]; exact hO4, by rw [hvN]; exact hAp4, hJ4, hH4, hM4.mono (by omega) (by omega), by rw [hl4, hLN], by omega, by omega, by rw [hr4, hrm], hc4, hB3.trans hb4⟩)
        subst hvN
        clear hL hJ3 hO3w hAp3 hB3 hJ4 hH4 hM4 hr4 hc4 hl4 ht4 hb4 hF4 hR4 hV4 hO4 hAp4 hLN

        have HLB := Lib.hid (show jN.lines.map bs = LN from by rw [HI.out.lines, map_bs_lb])
        have hlnN : jN.lines.length ≤ 1000 := by have := HI.out.len; rw [HI.out.lines, List.length_map]; omega
        have hlenN : LN.length < 1000000 := by have := HI.out.len; omega
        go_wp2_with fail
        refine (num_any 0 _).mono ?_
        rintro e w' ⟨rfl, rfl⟩
        go_wp2_with fail
        refine (lines_glue HI.out.jat (by omega)).mono ?_
        rintro e w10 ⟨v10, rfl, hO10, hb10⟩
        rw [HLB.out] at hO10
        have HT10 := Lib.hid (texts_on hO10 (show OwnLines w10 w.heap.size vN LN from pw_own_below HI.out.own hb10) hlenN true (decide_eq_true rfl))
        have HB10 := Lib.hid hb10
        clear hO10 hb10
        go_wp2_with fail
        refine (HT10.out _ (Below.refl _ _)).mono ?_
        rintro e w11 ⟨rfl, hb11⟩
        have hb11a := HB10.out.trans (hb11.mono HB10.out.size)
        have HI11 := Lib.hid (show HasInv w w11 g b (k + 1) rowN lvN vN stN jN xsN LN from ⟨pw_own_below HI.out.own hb11a, HI.out.apt, HI.out.jat.below hb11a, HI.out.has, HI.out.mes, HI.out.lines, HI.out.len, HI.out.turn, HI.out.room, HI.out.crash, HI.out.below.trans (hb11a.mono HI.out.below.size)⟩)
        obtain ⟨bd, eB, hcb⟩ : ∃ bd, B = some bd ∧ w.cell? (bd.add k) = some (.bool (bl[k]'(by omega))) := by
          obtain ⟨B', d', e, h⟩ := HBW.out
          injection e with e1
          subst e1
          exact h k (by omega)
        subst eB
        have hbw := World.block_lt_of_cell? w _ hcb
        have c11 := (HI11.out.below.cell hbw).trans hcb
        have hkb : k < bl.length := by omega
        clear hcb hbw hb11 hb11a HT10 HB10 HI
        cases hbk : bl[k]'(by omega) with
        | false =>
          rw [hbk] at c11
          go_wp2
          go_roundw
          case rel => exact ⟨k + 1, b, rowN, lvN, stN, jN, xsN, LN, by omega, rfl, by go_num, HI11⟩
          case measure => simp [intOf]; omega
        | true =>
          rw [hbk] at c11
          go_wp2_with fail
          have htn := HI11.out.turn
          refine (open_glue w.heap.size g rowN stN jN xsN _ _ _ (hg.below HI11.out.below h8) HI11.out.below.size HI11.out.jat.tape HI11.out.has HI11.out.mes (by omega) (by omega)).mono ?_
          rintro e w12 ⟨lv12, rfl, hJ12, hb12, hlv12⟩
          have hO12 : OwnLines w12 w.heap.size vN LN := pw_own_below HI11.out.own hb12
          have hA12 : Apt vN w11.heap.size g rowN lv12 := fun q hq => by
            have hq2 := own_lt HI11.out.own q hq
            obtain ⟨_, a2, a3, _⟩ := HI11.out.apt q hq
            exact ⟨by omega, a2, a3, fun e => by have := hlv12 q e; omega⟩
          have HI12 := Lib.hid (show HasInv w w12 g w11.heap.size (k + 1) rowN lv12 vN stN jN xsN LN from ⟨hO12, hA12, hJ12, HI11.out.has, HI11.out.mes, HI11.out.lines, HI11.out.len, HI11.out.turn, HI11.out.room, HI11.out.crash, HI11.out.below.trans (hb12.mono HI11.out.below.size)⟩)
          clear hJ12 hb12 hlv12 hO12 hA12 c11 HI11
          generalize w11.heap.size = b12 at *
          go_wp2_with fail
          refine (num_any 0 _).mono ?_
          rintro e w' ⟨rfl, rfl⟩
          go_wp2_with fail
          refine (lines_glue HI12.out.jat (by omega)).mono ?_
          rintro e w13 ⟨v13, rfl, hO13, hb13⟩
          rw [HLB.out] at hO13
          have HT13 := Lib.hid (texts_on hO13 (show OwnLines w13 w.heap.size vN LN from pw_own_below HI12.out.own hb13) hlenN true (decide_eq_true rfl))
          have HB13 := Lib.hid hb13
          clear hO13 hb13
          go_wp2_with fail
          refine (HT13.out _ (Below.refl _ _)).mono ?_
          rintro e w14 ⟨rfl, hb14⟩
          have hb14a := HB13.out.trans (hb14.mono HB13.out.size)
          have HI14 := Lib.hid (show HasInv w w14 g b12 (k + 1) rowN lv12 vN stN jN xsN LN from ⟨pw_own_below HI12.out.own hb14a, HI12.out.apt, HI12.out.jat.below hb14a, HI12.out.has, HI12.out.mes, HI12.out.lines, HI12.out.len, HI12.out.turn, HI12.out.room, HI12.out.crash, HI12.out.below.trans (hb14a.mono HI12.out.below.size)⟩)
          clear hb14 hb14a HT13 HB13 HI12
          go_wp2
          go_roundw
          case rel => exact ⟨k + 1, b12, rowN, lv12, stN, jN, xsN, LN, by omega, rfl, by go_num, HI14⟩
          case measure => simp [intOf]; omega
      · have hevb : (((ys.length : Nat) : Int).tmod 2 == 0) = false := by rw [beq_eq_false_iff_ne, Int.tmod_eq_emod_of_nonneg (Int.natCast_nonneg _)]; omega
        obtain ⟨i0, hi, hz0, hz1, hz2⟩ := info_parts info9
        have Hi := Lib.hid hi
        have Hz0 := Lib.hid hz0
        have Hz1 := Lib.hid hz1
        have Hz2 := Lib.hid hz2
        clear hi hz0 hz1 hz2
        go_wp2_with fail
        obtain ⟨y0, yr, rfl⟩ : ∃ y0 yr, ys = y0 :: yr := by
          cases ys with
          | nil => simp at hev
          | cons y0 yr => exact ⟨y0, yr, rfl⟩
        have hu0 := HUK.out y0 (List.mem_cons_self ..)
        obtain ⟨ak, eAk, hca⟩ : ∃ ak, Ak = some ak ∧ w.cell? ak = some (.int .u8 y0) := by
          obtain ⟨ak, e, h⟩ := Kd.at_int HCK.out 0 (by omega) (by simp only [List.length_cons]; omega)
          exact ⟨ak, e, by simpa [rd, Addr.add] using h⟩
        subst eAk
        have hblk0 := World.block_lt_of_cell? w _ hca
        have HCA := Lib.hid (show ∀ w', Below w.heap.size w w' → w'.cell? ak = some (.int .u8 y0) from fun w' hb => (hb.cell hblk0).trans hca)
        have HS := Lib.hid (show ∀ w', Below w.heap.size w w' → (w'.cell? (ad.add k) = some (.slice (some ak) (y0 :: yr).length ck) ∧ w'.cell? ak = some (.int .u8 y0)) from fun w' hb => ⟨HCU.out w' hb, HCA.out w' hb⟩)
        have hd0 : Below w.heap.size w wr.drew := HH.out.below.trans ((Below.refl w.heap.size wr).drew)
        have hd1 : Below w.heap.size w (wr.drew.alloc (.cells #[] 9)) := hd0.alloc hd0.size _
        have hq1 : Below wr.heap.size wr (wr.drew.alloc (.cells #[] 9)) := ((Below.refl wr.heap.size wr).drew).alloc (Nat.le_refl _) _
        have hO1 : OwnLines (wr.drew.alloc (.cells #[] 9)) w.heap.size u8 L := (pw_own_below HH.out.own ((Below.refl wr.heap.size wr).drew.alloc (Nat.le_refl _) _))
        have HOE := Lib.hid (own_empty wr.drew wr.heap.size (Nat.le_refl _))
        clear hca c0
        obtain ⟨A8, c8, rfl⟩ := own_slice hO1
        go_wp2_with fail
        cases A8 with
        | none =>
          obtain ⟨en, ec, eL⟩ := own_none_nil hO1
          subst ec eL
          have hq3 := hq1
          have hown3' := HOE.out
          go_region_held3 (fun w' => w'.cell? (ad.add k) = some (.slice (some ak) (y0 :: yr).length ck) ∧ w'.cell? ak = some (.int .u8 y0)) (first | exact HS.out _ hd0 | exact HS.out _ hd1 | exact HS.out _ hd4 | exact HS.out _ hd5 | exact HS.out _ hd6) (first | (go_at_call 16; refine (hln.line y0 _ hu0).mono ?_; rintro e w4 ⟨rfl, hb4⟩; have hq4 : Below wr.heap.size wr w4 := hq3.trans (hb4.mono hq3.size); have hq5 : Below wr.heap.size wr (w4.alloc (.cells #[.string (ln y0)] 9)) := hq4.alloc hq4.size _; have hd4 : Below w.heap.size w w4 := HH.out.below.trans (hq4.mono HH.out.below.size); have hd5 : Below w.heap.size w (w4.alloc (.cells #[.string (ln y0)] 9)) := HH.out.below.trans (hq5.mono HH.out.below.size); have hown5 : (w4.alloc (.cells #[.string (ln y0)] 9)).ownsRow wr.heap.size 9 1 (.slice (some ⟨wr.heap.size, 0, none⟩) 0 0) 0 [] := pw_own_below hown3' (hb4.trans ((Below.refl w4.heap.size w4).alloc (Nat.le_refl _) _ |>.mono hb4.size))) | (refine step_append_any _ rfl (.tmp 67) (.tmp 75) 34 rfl wr.heap.size 9 i0 (.string ⟨#[]⟩) 1 16 Tryd.underlying34 Hi.out Hz0.out Hz1.out Hz2.out rfl (by decide) _ _ _ rfl hown5 ⟨w4.heap.size, 0, none⟩ 1 1 [.string (ln y0)] rfl rfl (cell_one_new _ _ _) (by intro u hu; simp at hu; subst hu; rfl) (by unfold maxLen; omega) (by omega) hq5.size ?_; intro v6 w6 hown6 hgr6 hat6; have hq6 : Below wr.heap.size wr w6 := hq5.grown hgr6 hq5.size (fun k e => own_base hown5 k e); have hd6 : Below w.heap.size w w6 := HH.out.below.trans (hq6.mono HH.out.below.size)))
          have hO6 : OwnLines w6 wr.heap.size v6 (([] : List ByteArray) ++ [ln y0]) := by
            unfold OwnLines
            rw [List.length_append, List.map_append]
            simpa using hown6
          have HO6 := Lib.hid hO6
          have HQ6 := Lib.hid hq6
          have HC6 := Lib.hid (HS.out _ hd6)
          clear hown6 hown5 hd0 hd1 hO6 hq3 hown3'
          have hB6 := HH.out.below.trans (HQ6.out.mono HH.out.below.size)
          have k1 := HC6.out.1
          have k2 := HC6.out.2
          go_wp2_with fail
          refine (hln.line y0 _ hu0).mono ?_
          rintro e w7 ⟨rfl, hb7⟩
          have hQ7 := HQ6.out.trans (hb7.mono HQ6.out.size)
          have hB7 := HH.out.below.trans (hQ7.mono HH.out.below.size)
          have hJ7 := HH.out.jat.below hQ7
          have hO7 : OwnLines w7 wr.heap.size v6 (([] : List ByteArray) ++ [ln y0]) := pw_own_below HO6.out hb7
          have hAp7 : Apt v6 b g row lv := apt_fresh HH.out.jat (own_bound hO7)
          have hO7w : OwnLines w7 w.heap.size v6 (([] : List ByteArray) ++ [ln y0]) := own_weaken hO7 HH.out.below.size
          have htn := HH.out.turn
          have hrm := HH.out.room
          have hLn := HH.out.len
          have hoy := hln.ok y0 hu0
          have hsz : sizeL [lb (ln y0)] = (ln y0).size + 8 := rfl
          have hjl : j.lines.length ≤ 1000 := by rw [HH.out.lines, List.length_map]; omega
          clear hb7 k1 k2 HC6 HO6 HQ6 hB6 hO7
          go_wp2_with fail
          refine (note_glue w.heap.size b g row lv st j xs _ _ (ln y0) _ (hg.below hB7 h8) h8 hB7.size hJ7 HH.out.has HH.out.mes (by omega) (by omega) (by omega) (by omega) hoy.2 (by rw [hrm, hsz]; omega)).mono ?_
          intro e w9 hL
          obtain ⟨stN, jN, xsN, rowN, lvN, rfl, hJ4, hH4, hM4, hr4, hc4, hl4, ht4, hb4, hF4, hR4, hV4⟩ := hL.calm HH.out.crash hJ7 hB7.size
          obtain ⟨hO4, hAp4⟩ := held_call hO7w hAp7 hF4 hR4 hV4
          obtain ⟨LN, hLN⟩ : ∃ LN, LN = ([] : List ByteArray) ++ [ln y0] := ⟨_, rfl⟩
          have hlL : LN.length ≤ 12 + (k + 1) := by rw [hLN, List.length_append]; simp only [List.length_singleton, List.length_nil]; omega
          have hlL2 : j.lines ++ [lb (ln y0)] = LN.map lb := by rw [HH.out.lines, hLN, List.map_append]; rfl
          generalize v6 = vN at *
          have HI := Lib.hid (show HasInv w w9 g b (k + 1) rowN lvN vN stN jN xsN LN from ⟨by rw [hLN]; exact hO4, hAp4, hJ4, hH4, hM4.mono (by rw [hsz]; omega) (by omega), by rw [hl4, hlL2], hlL, by omega, by rw [hr4, hrm], hc4, hB7.trans hb4⟩)
          clear hL hJ7 hO7w hAp7 hB7 hJ4 hH4 hM4 hr4 hc4 hl4 ht4 hb4 hF4 hR4 hV4 hO4 hAp4 hLN hlL2 hQ7

          have HLB := Lib.hid (show jN.lines.map bs = LN from by rw [HI.out.lines, map_bs_lb])
          have hlnN : jN.lines.length ≤ 1000 := by have := HI.out.len; rw [HI.out.lines, List.length_map]; omega
          have hlenN : LN.length < 1000000 := by have := HI.out.len; omega
          go_wp2_with fail
          refine (num_any 0 _).mono ?_
          rintro e w' ⟨rfl, rfl⟩
          go_wp2_with fail
          refine (lines_glue HI.out.jat (by omega)).mono ?_
          rintro e w10 ⟨v10, rfl, hO10, hb10⟩
          rw [HLB.out] at hO10
          have HT10 := Lib.hid (texts_on hO10 (show OwnLines w10 w.heap.size vN LN from pw_own_below HI.out.own hb10) hlenN true (decide_eq_true rfl))
          have HB10 := Lib.hid hb10
          clear hO10 hb10
          go_wp2_with fail
          refine (HT10.out _ (Below.refl _ _)).mono ?_
          rintro e w11 ⟨rfl, hb11⟩
          have hb11a := HB10.out.trans (hb11.mono HB10.out.size)
          have HI11 := Lib.hid (show HasInv w w11 g b (k + 1) rowN lvN vN stN jN xsN LN from ⟨pw_own_below HI.out.own hb11a, HI.out.apt, HI.out.jat.below hb11a, HI.out.has, HI.out.mes, HI.out.lines, HI.out.len, HI.out.turn, HI.out.room, HI.out.crash, HI.out.below.trans (hb11a.mono HI.out.below.size)⟩)
          obtain ⟨bd, eB, hcb⟩ : ∃ bd, B = some bd ∧ w.cell? (bd.add k) = some (.bool (bl[k]'(by omega))) := by
            obtain ⟨B', d', e, h⟩ := HBW.out
            injection e with e1
            subst e1
            exact h k (by omega)
          subst eB
          have hbw := World.block_lt_of_cell? w _ hcb
          have c11 := (HI11.out.below.cell hbw).trans hcb
          have hkb : k < bl.length := by omega
          clear hcb hbw hb11 hb11a HT10 HB10 HI
          cases hbk : bl[k]'(by omega) with
          | false =>
            rw [hbk] at c11
            go_wp2
            go_roundw
            case rel => exact ⟨k + 1, b, rowN, lvN, stN, jN, xsN, LN, by omega, rfl, by go_num, HI11⟩
            case measure => simp [intOf]; omega
          | true =>
            rw [hbk] at c11
            go_wp2_with fail
            have htn := HI11.out.turn
            refine (open_glue w.heap.size g rowN stN jN xsN _ _ _ (hg.below HI11.out.below h8) HI11.out.below.size HI11.out.jat.tape HI11.out.has HI11.out.mes (by omega) (by omega)).mono ?_
            rintro e w12 ⟨lv12, rfl, hJ12, hb12, hlv12⟩
            have hO12 : OwnLines w12 w.heap.size vN LN := pw_own_below HI11.out.own hb12
            have hA12 : Apt vN w11.heap.size g rowN lv12 := fun q hq => by
              have hq2 := own_lt HI11.out.own q hq
              obtain ⟨_, a2, a3, _⟩ := HI11.out.apt q hq
              exact ⟨by omega, a2, a3, fun e => by have := hlv12 q e; omega⟩
            have HI12 := Lib.hid (show HasInv w w12 g w11.heap.size (k + 1) rowN lv12 vN stN jN xsN LN from ⟨hO12, hA12, hJ12, HI11.out.has, HI11.out.mes, HI11.out.lines, HI11.out.len, HI11.out.turn, HI11.out.room, HI11.out.crash, HI11.out.below.trans (hb12.mono HI11.out.below.size)⟩)
            clear hJ12 hb12 hlv12 hO12 hA12 c11 HI11
            generalize w11.heap.size = b12 at *
            go_wp2_with fail
            refine (num_any 0 _).mono ?_
            rintro e w' ⟨rfl, rfl⟩
            go_wp2_with fail
            refine (lines_glue HI12.out.jat (by omega)).mono ?_
            rintro e w13 ⟨v13, rfl, hO13, hb13⟩
            rw [HLB.out] at hO13
            have HT13 := Lib.hid (texts_on hO13 (show OwnLines w13 w.heap.size vN LN from pw_own_below HI12.out.own hb13) hlenN true (decide_eq_true rfl))
            have HB13 := Lib.hid hb13
            clear hO13 hb13
            go_wp2_with fail
            refine (HT13.out _ (Below.refl _ _)).mono ?_
            rintro e w14 ⟨rfl, hb14⟩
            have hb14a := HB13.out.trans (hb14.mono HB13.out.size)
            have HI14 := Lib.hid (show HasInv w w14 g b12 (k + 1) rowN lv12 vN stN jN xsN LN from ⟨pw_own_below HI12.out.own hb14a, HI12.out.apt, HI12.out.jat.below hb14a, HI12.out.has, HI12.out.mes, HI12.out.lines, HI12.out.len, HI12.out.turn, HI12.out.room, HI12.out.crash, HI12.out.below.trans (hb14a.mono HI12.out.below.size)⟩)
            clear hb14 hb14a HT13 HB13 HI12
            go_wp2
            go_roundw
            case rel => exact ⟨k + 1, b12, rowN, lv12, stN, jN, xsN, LN, by omega, rfl, by go_num, HI14⟩
            case measure => simp [intOf]; omega
        | some a8 =>
          have HNW := Lib.hid (own_news hO1).2
          have hLl := HH.out.len
          go_region_held3 (fun w' => w'.cell? (ad.add k) = some (.slice (some ak) (y0 :: yr).length ck) ∧ w'.cell? ak = some (.int .u8 y0)) (first | exact HS.out _ hd0 | exact HS.out _ hd1 | exact HS.out _ hd3 | exact HS.out _ hd4 | exact HS.out _ hd5 | exact HS.out _ hd6) (first | (go_at_call 16; refine (hln.line y0 _ hu0).mono ?_; rintro e w4 ⟨rfl, hb4⟩; have hq4 : Below wr.heap.size wr w4 := hq3.trans (hb4.mono hq3.size); have hq5 : Below wr.heap.size wr (w4.alloc (.cells #[.string (ln y0)] 9)) := hq4.alloc hq4.size _; have hd4 : Below w.heap.size w w4 := HH.out.below.trans (hq4.mono HH.out.below.size); have hd5 : Below w.heap.size w (w4.alloc (.cells #[.string (ln y0)] 9)) := HH.out.below.trans (hq5.mono HH.out.below.size); have hown5 : (w4.alloc (.cells #[.string (ln y0)] 9)).ownsRow wr.heap.size 9 1 v3 L.length (L.map Value.string) := pw_own_below hown3' (hb4.trans ((Below.refl w4.heap.size w4).alloc (Nat.le_refl _) _ |>.mono hb4.size))) | (refine step_append_any _ rfl (.tmp 65) (.tmp 66) 34 rfl wr.heap.size 9 i0 (.string ⟨#[]⟩) 1 16 Tryd.underlying34 Hi.out Hz0.out Hz1.out Hz2.out rfl (by decide) _ _ _ rfl HOE.out a8 L.length c8 (L.map Value.string) rfl (by simp) HNW.out (by intro u hu; simp at hu; obtain ⟨y, _, rfl⟩ := hu; rfl) (by unfold maxLen; omega) (by omega) (by simp) ?_; intro v3 w3 hown3 hgr3 hat3; have hown3' : w3.ownsRow wr.heap.size 9 1 v3 L.length (L.map Value.string) := (by simpa using hown3); have hq3 : Below wr.heap.size wr w3 := hq1.grown (show World.grownBy _ w3 (some wr.heap.size) from hgr3) hq1.size (fun k e => by cases e; exact Nat.le_refl _); have hd3 : Below w.heap.size w w3 := HH.out.below.trans (hq3.mono HH.out.below.size)) | (refine step_append_any _ rfl (.tmp 67) (.tmp 75) 34 rfl wr.heap.size 9 i0 (.string ⟨#[]⟩) 1 16 Tryd.underlying34 Hi.out Hz0.out Hz1.out Hz2.out rfl (by decide) _ _ _ rfl hown5 ⟨w4.heap.size, 0, none⟩ 1 1 [.string (ln y0)] rfl rfl (cell_one_new _ _ _) (by intro u hu; simp at hu; subst hu; rfl) (by unfold maxLen; omega) (by omega) hq5.size ?_; intro v6 w6 hown6 hgr6 hat6; have hq6 : Below wr.heap.size wr w6 := hq5.grown hgr6 hq5.size (fun k e => own_base hown5 k e); have hd6 : Below w.heap.size w w6 := HH.out.below.trans (hq6.mono HH.out.below.size)))
          have hO6 : OwnLines w6 wr.heap.size v6 (L ++ [ln y0]) := by
            unfold OwnLines
            rw [List.length_append, List.map_append]
            simpa using hown6
          have HO6 := Lib.hid hO6
          have HQ6 := Lib.hid hq6
          have HC6 := Lib.hid (HS.out _ hd6)
          clear hown6 hown5 hd0 hd1 hO6 hown3 hown3' hgr3 hat3 hq3 hd3
          have hB6 := HH.out.below.trans (HQ6.out.mono HH.out.below.size)
          have k1 := HC6.out.1
          have k2 := HC6.out.2
          go_wp2_with fail
          refine (hln.line y0 _ hu0).mono ?_
          rintro e w7 ⟨rfl, hb7⟩
          have hQ7 := HQ6.out.trans (hb7.mono HQ6.out.size)
          have hB7 := HH.out.below.trans (hQ7.mono HH.out.below.size)
          have hJ7 := HH.out.jat.below hQ7
          have hO7 : OwnLines w7 wr.heap.size v6 (L ++ [ln y0]) := pw_own_below HO6.out hb7
          have hAp7 : Apt v6 b g row lv := apt_fresh HH.out.jat (own_bound hO7)
          have hO7w : OwnLines w7 w.heap.size v6 (L ++ [ln y0]) := own_weaken hO7 HH.out.below.size
          have htn := HH.out.turn
          have hrm := HH.out.room
          have hLn := HH.out.len
          have hoy := hln.ok y0 hu0
          have hsz : sizeL [lb (ln y0)] = (ln y0).size + 8 := rfl
          have hjl : j.lines.length ≤ 1000 := by rw [HH.out.lines, List.length_map]; omega
          clear hb7 k1 k2 HC6 HO6 HQ6 hB6 hO7
          go_wp2_with fail
          refine (note_glue w.heap.size b g row lv st j xs _ _ (ln y0) _ (hg.below hB7 h8) h8 hB7.size hJ7 HH.out.has HH.out.mes (by omega) (by omega) (by omega) (by omega) hoy.2 (by rw [hrm, hsz]; omega)).mono ?_
          intro e w9 hL
          obtain ⟨stN, jN, xsN, rowN, lvN, rfl, hJ4, hH4, hM4, hr4, hc4, hl4, ht4, hb4, hF4, hR4, hV4⟩ := hL.calm HH.out.crash hJ7 hB7.size
          obtain ⟨hO4, hAp4⟩ := held_call hO7w hAp7 hF4 hR4 hV4
          obtain ⟨LN, hLN⟩ : ∃ LN, LN = L ++ [ln y0] := ⟨_, rfl⟩
          have hlL : LN.length ≤ 12 + (k + 1) := by rw [hLN, List.length_append]; simp only [List.length_singleton]; omega
          have hlL2 : j.lines ++ [lb (ln y0)] = LN.map lb := by rw [HH.out.lines, hLN, List.map_append]; rfl
          generalize v6 = vN at *
          have HI := Lib.hid (show HasInv w w9 g b (k + 1) rowN lvN vN stN jN xsN LN from ⟨by rw [hLN]; exact hO4, hAp4, hJ4, hH4, hM4.mono (by rw [hsz]; omega) (by omega), by rw [hl4, hlL2], hlL, by omega, by rw [hr4, hrm], hc4, hB7.trans hb4⟩)
          clear hL hJ7 hO7w hAp7 hB7 hJ4 hH4 hM4 hr4 hc4 hl4 ht4 hb4 hF4 hR4 hV4 hO4 hAp4 hLN hlL2 hQ7

          have HLB := Lib.hid (show jN.lines.map bs = LN from by rw [HI.out.lines, map_bs_lb])
          have hlnN : jN.lines.length ≤ 1000 := by have := HI.out.len; rw [HI.out.lines, List.length_map]; omega
          have hlenN : LN.length < 1000000 := by have := HI.out.len; omega
          go_wp2_with fail
          refine (num_any 0 _).mono ?_
          rintro e w' ⟨rfl, rfl⟩
          go_wp2_with fail
          refine (lines_glue HI.out.jat (by omega)).mono ?_
          rintro e w10 ⟨v10, rfl, hO10, hb10⟩
          rw [HLB.out] at hO10
          have HT10 := Lib.hid (texts_on hO10 (show OwnLines w10 w.heap.size vN LN from pw_own_below HI.out.own hb10) hlenN true (decide_eq_true rfl))
          have HB10 := Lib.hid hb10
          clear hO10 hb10
          go_wp2_with fail
          refine (HT10.out _ (Below.refl _ _)).mono ?_
          rintro e w11 ⟨rfl, hb11⟩
          have hb11a := HB10.out.trans (hb11.mono HB10.out.size)
          have HI11 := Lib.hid (show HasInv w w11 g b (k + 1) rowN lvN vN stN jN xsN LN from ⟨pw_own_below HI.out.own hb11a, HI.out.apt, HI.out.jat.below hb11a, HI.out.has, HI.out.mes, HI.out.lines, HI.out.len, HI.out.turn, HI.out.room, HI.out.crash, HI.out.below.trans (hb11a.mono HI.out.below.size)⟩)
          obtain ⟨bd, eB, hcb⟩ : ∃ bd, B = some bd ∧ w.cell? (bd.add k) = some (.bool (bl[k]'(by omega))) := by
            obtain ⟨B', d', e, h⟩ := HBW.out
            injection e with e1
            subst e1
            exact h k (by omega)
          subst eB
          have hbw := World.block_lt_of_cell? w _ hcb
          have c11 := (HI11.out.below.cell hbw).trans hcb
          have hkb : k < bl.length := by omega
          clear hcb hbw hb11 hb11a HT10 HB10 HI
          cases hbk : bl[k]'(by omega) with
          | false =>
            rw [hbk] at c11
            go_wp2
            go_roundw
            case rel => exact ⟨k + 1, b, rowN, lvN, stN, jN, xsN, LN, by omega, rfl, by go_num, HI11⟩
            case measure => simp [intOf]; omega
          | true =>
            rw [hbk] at c11
            go_wp2_with fail
            have htn := HI11.out.turn
            refine (open_glue w.heap.size g rowN stN jN xsN _ _ _ (hg.below HI11.out.below h8) HI11.out.below.size HI11.out.jat.tape HI11.out.has HI11.out.mes (by omega) (by omega)).mono ?_
            rintro e w12 ⟨lv12, rfl, hJ12, hb12, hlv12⟩
            have hO12 : OwnLines w12 w.heap.size vN LN := pw_own_below HI11.out.own hb12
            have hA12 : Apt vN w11.heap.size g rowN lv12 := fun q hq => by
              have hq2 := own_lt HI11.out.own q hq
              obtain ⟨_, a2, a3, _⟩ := HI11.out.apt q hq
              exact ⟨by omega, a2, a3, fun e => by have := hlv12 q e; omega⟩
            have HI12 := Lib.hid (show HasInv w w12 g w11.heap.size (k + 1) rowN lv12 vN stN jN xsN LN from ⟨hO12, hA12, hJ12, HI11.out.has, HI11.out.mes, HI11.out.lines, HI11.out.len, HI11.out.turn, HI11.out.room, HI11.out.crash, HI11.out.below.trans (hb12.mono HI11.out.below.size)⟩)
            clear hJ12 hb12 hlv12 hO12 hA12 c11 HI11
            generalize w11.heap.size = b12 at *
            go_wp2_with fail
            refine (num_any 0 _).mono ?_
            rintro e w' ⟨rfl, rfl⟩
            go_wp2_with fail
            refine (lines_glue HI12.out.jat (by omega)).mono ?_
            rintro e w13 ⟨v13, rfl, hO13, hb13⟩
            rw [HLB.out] at hO13
            have HT13 := Lib.hid (texts_on hO13 (show OwnLines w13 w.heap.size vN LN from pw_own_below HI12.out.own hb13) hlenN true (decide_eq_true rfl))
            have HB13 := Lib.hid hb13
            clear hO13 hb13
            go_wp2_with fail
            refine (HT13.out _ (Below.refl _ _)).mono ?_
            rintro e w14 ⟨rfl, hb14⟩
            have hb14a := HB13.out.trans (hb14.mono HB13.out.size)
            have HI14 := Lib.hid (show HasInv w w14 g b12 (k + 1) rowN lv12 vN stN jN xsN LN from ⟨pw_own_below HI12.out.own hb14a, HI12.out.apt, HI12.out.jat.below hb14a, HI12.out.has, HI12.out.mes, HI12.out.lines, HI12.out.len, HI12.out.turn, HI12.out.room, HI12.out.crash, HI12.out.below.trans (hb14a.mono HI12.out.below.size)⟩)
            clear hb14 hb14a HT13 HB13 HI12
            go_wp2
            go_roundw
            case rel => exact ⟨k + 1, b12, rowN, lv12, stN, jN, xsN, LN, by omega, rfl, by go_num, HI14⟩
            case measure => simp [intOf]; omega
    · obtain rfl : k = xss.length := by omega
      go_wp2_with fail
      refine (DONE.out _ HH.out.below).mono ?_
      rintro e w1 ⟨rfl, hb1⟩
      go_wp2
      go_ret
      exact ⟨rfl, hb1⟩
end Go.Proofs.YtepcagakegbjfaaDoor
namespace Go.Proofs.YtepcagakegbjfaaDoor.journalHas
open Go.ChangeShapes Go.WideShapes Go.ChangeAt Go.RowKit
open Go.ChangeMaps (open_string shut_string)
set_option linter.unusedVariables false

theorem own : ownKnob Tryd.prog.godebug = none := by kernel_rfl

set_option maxRecDepth 100000 in
theorem lifted (os : Os) (started : os.Started) (H : Type) (enc : TypeId × Value → H) :
    ReturnsInHanded {} Tryd.checked os 3 .any (fun w args => (Rows.journalHasSpec.pre enc Tryd.prog Tryd.f3 Rows.journalHasRow.domain false w args ∧ laidMetH Tryd.prog Rows.journalHasRow.laid w) ∧ sizedMet enc Tryd.prog Tryd.f3 (OpenSpec.ofChange Rows.journalHasSpec) false w args)
      (Rows.journalHasSpec.post enc Tryd.prog Tryd.f3 false true false false) := by
  refine handed_both (C := Tryd.checked) (X := fun w _ => laidMetH Tryd.prog Rows.journalHasRow.laid w) (fun _ _ _ hh h => h.of_heap hh) own started (by kernel_rfl) Tryd.func3
    (ChangeSpec.witness_shaped (enc := enc) (C := Tryd.checked) (os := os) (X := fun w _ => laidMetH Tryd.prog Rows.journalHasRow.laid w) false (World.laidAll Tryd.prog os Rows.journalHasRow.laid) #[.slice none 0 0, .slice none 0 0] 8 (World.laidAll_os _ _ _)
      (World.shaped_of_ZipB (by kernel_rfl) (by kernel_rfl)) (by kernel_rfl) (by kernel_rfl) (by kernel_rfl)
      (by rw [MakeChecks.laidMetH_plain _ _ _ (by kernel_rfl)]; exact laidMet_laidAll _ (by kernel_rfl) (by kernel_rfl))) ?_
  intro W base args ds gs before hval0 hW hS hL
  have hval : ∀ (j : Nat) t v, Tryd.f3.params[j]? = some t → args[j]? = some v → Value.okWide Tryd.prog W .any base t v := hval0
  have hW' := hW
  obtain ⟨p, q, hA0, hV, rfl, hfz, hnd⟩ := hW
  have hA : DataW.TrodAll enc Tryd.prog W 0 (fun _ => true) true Tryd.f3.params.toList args.toList ds p := hA0
  rw [Tryd.params3] at hA hval
  obtain ⟨v0, vs0, d0, ds0, p0, q0, hargs, rfl, rfl, h0, r0⟩ := trodAll_cons hA
  obtain ⟨v1, vs1, d1, ds1, p1, q1, rfl, rfl, rfl, h1, r1⟩ := trodAll_cons r0
  obtain ⟨rfl, rfl, rfl⟩ := trodAll_nil r1
  obtain rfl : args = #[v0, v1] := by cases args; simp_all
  obtain ⟨rfl, rfl⟩ := trodVars_none hV
  have k0 := h0
  have lt0 : ∀ x ∈ p0, x.block < W.heap.size := by obtain ⟨m, hm⟩ := k0; exact DataW.trod_lt m _ _ _ hm
  have k1 := h1
  have lt1 : ∀ x ∈ p1, x.block < W.heap.size := by obtain ⟨m, hm⟩ := k1; exact DataW.trod_lt m _ _ _ hm
  obtain ⟨xss, R0⟩ := rows_open (okWide_slice Tryd.underlying22 (hval 0 22 v0 rfl rfl)) h0
  obtain ⟨bl, R1⟩ := bools_open (okWide_slice Tryd.underlying23 (hval 1 23 v1 rfl rfl)) h1
  obtain ⟨A, c, rfl, _⟩ := id R0
  obtain ⟨B, d, rfl, _⟩ := id R1
  clear hA0 hval0
  refine (has_any lineI lineSpec xss bl A B c d W (gl_of hL hS) R0 R1).mono fun e W' ⟨he, bel⟩ => ?_
  subst he
  exact ⟨_, rfl, _, _, _, [], _, [], hW', trodAll_mk1 (shut_bool Tryd.underlying4 _), (trodAll_cons_mk (Below.trod laidOut (by kernel_rfl) (of_decide_eq_true (by kernel_rfl)) k0 bel lt0) (trodAll_cons_mk (Below.trod laidOut (by kernel_rfl) (of_decide_eq_true (by kernel_rfl)) k1 bel lt1) trodAll_mk0)), rfl, bel.frame _, fun h => by cases h⟩

/-- The row's statement. -/
theorem row_holds : Rows.JournalHasSaid :=
  OpenClaim.holds_of_wide 3 Tryd.f3 rfl rfl rfl rfl rfl rfl rfl ⟨rfl, rfl, rfl, rfl, rfl⟩ rfl rfl rfl rfl rfl (by kernel_rfl) Tryd.func3 (by kernel_rfl)
    (of_decide_eq_true (by kernel_rfl)) (by unfold Func.isWrapper; first | (rw [if_pos (by decide +kernel)]; kernel_rfl) | (rw [if_neg (by decide +kernel)]; exact ⟨rfl, rfl⟩))
    (fun os started H enc _ => lifted os started H enc)
/-- The statement: the tied card. -/
theorem proved : Rows.JournalHasCardSaid :=
  Claim7.holds_tied_plain_at .later [] [.data, .data, .data, .data, .sentinel, .sentinel, .pinned] true (true, "da1c6e6e57c94f45f9efa7391f33bfb80085fc88f3d189c72144fcdf8e4489a7") true
    row_holds (fun _ h => by cases h) (by kernel_rfl) (fun _ h => by cases h) journalHas_row_tie rfl ⟨rfl, rfl⟩ (by kernel_rfl) rfl
    (fun f fn hf hfn => by
      obtain rfl : f = 3 := Option.some.inj ((show Tryd.prog.funcNamed Rows.journalHasRow.func = some 3 by kernel_rfl).symm.trans hf) |>.symm
      obtain rfl : fn = Tryd.f3 := (Option.some.inj (Tryd.func3.symm.trans hfn)).symm
      exact ⟨by kernel_rfl, fun j t ht => by
        rw [Tryd.params3] at ht
        have hall : ∀ t ∈ [22, 23], Tryd.prog.wantsStandIn t = false := by
          intro t ht
          simp only [List.mem_cons, List.mem_nil_iff, or_false] at ht
          rcases ht with rfl | rfl <;> kernel_rfl
        refine hall t (List.mem_of_getElem? (l := [22, 23]) (i := j) ?_)
        simpa using ht⟩)
    (by kernel_rfl)
end Go.Proofs.YtepcagakegbjfaaDoor.journalHas
#print axioms Go.Proofs.YtepcagakegbjfaaDoor.journalHas.proved
