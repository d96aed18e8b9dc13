/- What is no line is refused by a journal and changes nothing, and so is all beside it: for every list of numbers, text and number; package variables of Go as its own text lays them; no other condition. -/
import Derived.Test.YtepcagakegbjfaaDoorGg
import Derived.Test.YtepcagakegbjfaaDoorGf
import Derived.Test.YtepcagakegbjfaaDoorTie
import Derived.Test.YtepcagakegbjfaaDoorCards
import Derived.WalkKit
import Derived.ProofKit
import Derived.OpenShut
import Derived.ShutString
import Derived.ChangeOld
import Derived.Below
import Derived.LaidMore
import Derived.Lay
import Derived.SevenTiedAt
import Derived.Stop.Joined
/- JournalRefuses. -/
namespace Go.Proofs.YtepcagakegbjfaaDoor
open Go.RowKit Go.Proofs.YtepcagakegbjfaaDoorW.PrintWords
open Jr (bs lb bs_lb lb_bs bs_app okLine TapeSt addF sealF wipeF fallF newSt Has Mes Out Down Jn Sd sizeL)

/-- What the law's loop has reckoned behind k bytes. -/
def rightK (s : List UInt8) (k : Nat) : Bool := !s.isEmpty && decide (s.length ≤ 1000) && (s.take k).all fun c => decide (32 ≤ c.toNat)
theorem right_end (s : List UInt8) : rightK s s.length = okLine s := by
  unfold rightK okLine
  rw [List.take_length]
theorem right_step (s : List UInt8) (k : Nat) (h : k < s.length) : rightK s (k + 1) = (rightK s k && decide (32 ≤ s[k].toNat)) := by
  unfold rightK
  rw [List.take_succ_eq_append_getElem h, List.all_append]
  simp [Bool.and_assoc]
theorem right_zero (s : List UInt8) : rightK s 0 = (!s.isEmpty && decide (s.length ≤ 1000)) := by
  unfold rightK
  simp
set_option maxRecDepth 100000 in
set_option maxHeartbeats 3200000 in
theorem refuses_any (ln : Int → ByteArray) (hln : LineSpec ln) (xs : List Int) (A : Option Addr) (c : Nat) (bad : ByteArray) (a : Int) (hxs : ∀ x ∈ xs, U8 x) (ha : U8 a) (w : World) (hg : Gl w) (hr : Kd.C (Kd.int .u8) w A xs.length xs) (hc : xs.length ≤ c) :
    Calls Tryd.prog 4 #[.slice A xs.length c, .string bad, .int .u8 a] w fun e w' => e = .returned (.bool true) ∧ Below w.heap.size w w' := by
  have h8 := hg.many
  by_cases hlen : xs.length = 0 ∨ 12 < xs.length ∨ 1500 < bad.size
  · clear hr hc
    have done : ∀ w1, Below w.heap.size w w1 → Calls Tryd.prog 10 #[] w1 fun e w' => e = .returned (.bool true) ∧ Below w.heap.size w w' := fun w1 hb => (awake_any _ (hg.below hb h8)).mono fun e w' ⟨h1, h2⟩ => ⟨h1, hb.trans (h2.mono hb.size)⟩
    by_cases h0 : xs.length = 0
    · have hx : xs = [] := List.length_eq_zero_iff.1 h0
      subst hx
      go_enter Tryd.func4, Tryd.ntmps4
      go_wp2_with fail
      refine (done _ (Below.refl _ _)).mono ?_
      rintro e w1 ⟨rfl, hb1⟩
      go_wp2
      go_ret
      exact ⟨rfl, hb1⟩
    · have h0b : (((xs.length : Nat) : Int) == 0) = false := by simp; intro e; exact h0 (by rw [e]; rfl)
      by_cases h1 : 12 < xs.length
      · have h1b : decide ((12 : Int) < (xs.length : Int)) = true := decide_eq_true (by omega)
        go_enter Tryd.func4, Tryd.ntmps4
        go_wp2_with fail
        refine (done _ (Below.refl _ _)).mono ?_
        rintro e w1 ⟨rfl, hb1⟩
        go_wp2
        go_ret
        exact ⟨rfl, hb1⟩
      · have h1b : decide ((12 : Int) < (xs.length : Int)) = false := decide_eq_false (by omega)
        have h2b : decide ((1500 : Int) < (bad.size : Int)) = true := decide_eq_true (by omega)
        go_enter Tryd.func4, Tryd.ntmps4
        go_wp2_with fail
        refine (done _ (Below.refl _ _)).mono ?_
        rintro e w1 ⟨rfl, hb1⟩
        go_wp2
        go_ret
        exact ⟨rfl, hb1⟩
  have h0 : xs.length ≠ 0 := by omega
  have hl2 : (xs.length : Int) ≤ 12 := by omega
  have hbz : (bad.size : Int) ≤ 1500 := by omega
  have h0b : (((xs.length : Nat) : Int) == 0) = false := by simp; intro e; exact h0 (by rw [e]; rfl)
  have h1b : decide ((12 : Int) < (xs.length : Int)) = false := decide_eq_false (by omega)
  have h2b : decide ((1500 : Int) < (bad.size : Int)) = false := decide_eq_false (by omega)
  have HR := Lib.hid hr
  have HC := Lib.hid hc
  have HX := Lib.hid hxs
  clear hr hc hxs
  go_enter Tryd.func4, Tryd.ntmps4
  go_wp2_with fail
  refine (new_any 262144 0 0 0 _).mono ?_
  rintro e w1 ⟨g, rfl, hT1, hb1⟩
  go_wp2_with fail
  refine (open_glue w.heap.size g none _ ⟨0, 0, [], false⟩ [] 0 0 _ (hg.below hb1 h8) hb1.size hT1 (Jr.has_new ..) (mes_new ..) (by decide) (by decide)).mono ?_
  rintro e w2 ⟨lv2, rfl, hJ2, hb2, _⟩
  have hB2 := hb1.trans (hb2.mono hb1.size)
  clear hb1 hb2 hT1
  generalize w1.heap.size = b2 at *
  go_wp2_with fail
  refine (num_any 0 _).mono ?_
  rintro e w' ⟨rfl, rfl⟩
  go_wp2_with fail
  refine (hln.lines xs A c _ HX.out (by omega) (Kd.C_below HR.out hB2) HC.out).mono ?_
  rintro e w3 ⟨v3, rfl, hO3, hb3⟩
  have hJ3 := hJ2.below hb3
  have hB3 := hB2.trans (hb3.mono hB2.size)
  have hAp3 : Apt v3 b2 g none lv2 := apt_fresh hJ2 (own_bound hO3)
  have hO3w : OwnLines w3 w.heap.size v3 (xs.map ln) := own_weaken hO3 hB2.size
  have hsl := sizeL_lines hln xs HX.out
  clear hJ2 hb3 hB2 hO3
  go_wp2_with fail
  refine (save_own w.heap.size b2 g none lv2 _ _ [] 0 0 v3 _ (xs.map ln) _ (hg.below hB3 h8) h8 hB3.size hJ3 (Jr.has_new ..) (mes_new ..) (by decide) (by decide) (by decide) hO3w hAp3 (by rw [List.length_map]; omega) (lines_ok hln HX.out) (by show _ ≤ (262144 : Int); omega)).mono ?_
  intro e w4 hL
  obtain ⟨st4, j4, xs4, row4, lv4, rfl, hJ4, hH4, hM4, hr4, hc4, hl4, ht4, hb4, hF4, hR4, hV4⟩ := hL.calm rfl hJ3 hB3.size
  obtain ⟨hO4, hAp4⟩ := held_call hO3w hAp3 hF4 hR4 hV4
  have hB4 := hB3.trans hb4
  have hM4b := hM4.mono (B' := 700) (c' := 3) (by omega) (by omega)
  have hr4b : st4.room = 262144 := hr4
  clear hL hJ3 hO3w hAp3 hB3 hb4 hF4 hR4 hV4 hM4 hr4
  have hlb : (lb bad).length = bad.size := Jr.lb_length bad
  have hbe : (lb bad).isEmpty = true ↔ bad.toList = [] := by
    rw [ByteArray.toList_eq]
    unfold lb
    rw [List.isEmpty_iff]
  have hz := right_zero (lb bad)
  by_cases e0 : bad.toList = []
  · have hr0 : rightK (lb bad) 0 = false := by rw [hz, hbe.2 e0]; rfl
    have HBE := Lib.hid hbe
    clear hz hbe
    go_wp2
    go_loopw [11, 12] (fun r i wr => ∃ k : Nat, k ≤ bad.size ∧ i = .int .i64 k ∧ r = .bool (rightK (lb bad) k) ∧ wr = w4) (fun _ i _ => bad.size - (intOf i).toNat)
    case atStart => exact ⟨0, by omega, rfl, by first | (rw [hr0]; done) | (rw [hr0]; simp [List.isEmpty_iff, e0, ← ByteArray.toList_eq]), by first | rfl | trivial⟩
    case round =>
      obtain ⟨k, hk, rfl, rfl, rfl⟩ := hrel
      by_cases hlt : k < bad.size
      · have hst := right_step (lb bad) k (by rw [hlb]; exact hlt)
        have hbk : (lb bad)[k]'(by rw [hlb]; exact hlt) = bad[k] := rfl
        cases hrk : rightK (lb bad) k with
        | true =>
          rw [hrk, Bool.true_and] at hst
          go_wp2
          go_roundw
          case rel => exact ⟨k + 1, by omega, by go_num, by rw [hst]; exact congrArg Value.bool (decide_eq_decide.2 (by rw [hbk]; omega)), by first | rfl | trivial⟩
          case measure => simp [intOf]; omega
        | false =>
          rw [hrk, Bool.false_and] at hst
          go_wp2
          go_roundw
          case rel => exact ⟨k + 1, by omega, by go_num, by rw [hst], by first | rfl | trivial⟩
          case measure => simp [intOf]; omega
      · obtain rfl : k = bad.size := by omega
        have hend : rightK (lb bad) bad.size = okLine (lb bad) := by rw [← hlb]; exact right_end _
        rw [hend]
        obtain ⟨R, hR⟩ : ∃ R, okLine (lb bad) = R := ⟨_, rfl⟩
        rw [hR]
        have HRr := Lib.hid hR
        clear hR hend hr0 hlb
        have hOE := own_empty wr wr.heap.size (Nat.le_refl _)
        have hA5 := (Below.refl wr.heap.size wr).alloc (Nat.le_refl _) (Obj.cells #[] 9)
        obtain ⟨g3, c3, rfl, hc3⟩ := own_pos hO4 (by rw [List.length_map]; omega)
        have HNW := Lib.hid (own_news (l := xs.map ln) (show OwnLines (wr.alloc (.cells #[] 9)) w.heap.size _ _ from pw_own_below hO4 hA5)).2
        have HOE := Lib.hid hOE
        have HLM := Lib.hid (show (xs.map ln).length = xs.length from List.length_map ..)
        obtain ⟨i0, hi, hz0, hz1, hz2⟩ := info_parts info9
        have Hi := Lib.hid hi
        have Hz0 := Lib.hid hz0
        have Hz1 := Lib.hid hz1
        have Hz2 := Lib.hid hz2
        clear hi hz0 hz1 hz2 hOE hc3
        have hwa := wrap_u8 ha
        obtain ⟨ix, hix, hixl⟩ : ∃ ix : Nat, (wrap64 a).tmod (xs.length : Int) = ix ∧ ix < xs.length := by
          have ha1 := ha.1
          have hp : (0 : Int) < (xs.length : Int) := by omega
          have hm1 := Int.emod_nonneg a (show (xs.length : Int) ≠ 0 by omega)
          have hm2 := Int.emod_lt_of_pos a hp
          refine ⟨(a % (xs.length : Int)).toNat, ?_, by omega⟩
          rw [hwa, Int.tmod_eq_emod_of_nonneg ha1]
          omega
        have hixm : ix < (xs.map ln).length := by rw [List.length_map]; exact hixl
        have HO4 := Lib.hid hO4
        have HJ4 := Lib.hid hJ4
        have HB4 := Lib.hid hB4
        clear hwa hO4 hJ4 hB4 hA5
        go_wp2_with (at_builtin; refine wpList_append_own_at _ rfl _ _ 34 rfl wr.heap.size 9 i0 (.string ⟨#[]⟩) 1 16 Tryd.underlying34 Hi.out Hz0.out Hz1.out Hz2.out rfl (by decide) _ _ _ rfl HOE.out ⟨g3, 0, none⟩ (xs.map ln).length c3 ((xs.map ln).map Value.string) rfl (by simp) HNW.out (by intro u hu; simp at hu; obtain ⟨y, _, rfl⟩ := hu; rfl) (by have := HLM.out; unfold maxLen; omega) (by have := HLM.out; omega) (by simp) ?_; intro v5 w5 hown5 hgrow5 _ _; obtain ⟨g5, c5, rfl, hc5⟩ := own_pos hown5 (by have := HLM.out; omega); have HOWN := Lib.hid (show OwnLines w5 wr.heap.size (.slice (some ⟨g5, 0, none⟩) (0 + (xs.map ln).length) c5) (xs.map ln) from by (have hown6 := hown5); rw [Nat.zero_add] at hown6 ⊢; exact hown6); have HGR := Lib.hid (show World.grownBy _ w5 (some wr.heap.size) from hgrow5); obtain ⟨kc, kf⟩ := own_cell HOWN.out ix hixm; clear hown5 hgrow5 hc5)
        rw [show 0 + (xs.map ln).length = xs.length from by rw [Nat.zero_add]; exact HLM.out] at HOWN
        have hO6 := own_set HOWN.out ix bad
        have hg5 : wr.heap.size ≤ g5 := own_bound HOWN.out g5 rfl
        have hb5 : Below wr.heap.size wr w5 := ((Below.refl wr.heap.size wr).alloc (Nat.le_refl _) (Obj.cells #[] 9)).grown HGR.out (by simp) (fun k e => by cases e; exact Nat.le_refl _)
        have hb6 := hb5.setCell (p := ⟨g5, ix, none⟩) hg5 (.string bad)
        generalize w5.setCell ⟨g5, ix, none⟩ (.string bad) = w6 at *
        clear hb5 HGR HOWN HNW HOE Hi Hz0 Hz1 Hz2 kc kf
        generalize Value.slice (some ⟨g5, 0, none⟩) xs.length c5 = v6 at *
        have HJ6 := Lib.hid (HJ4.out.below hb6)
        have HO36 := Lib.hid (show OwnLines w6 w.heap.size (.slice (some ⟨g3, 0, none⟩) xs.length c3) (xs.map ln) from by (have q := pw_own_below HO4.out hb6); rw [HLM.out] at q; unfold OwnLines; rw [HLM.out]; exact q)
        have HB6 := Lib.hid (HB4.out.trans (hb6.mono HB4.out.size))
        have HAp6 := Lib.hid (show Apt v6 b2 g row4 lv4 from apt_fresh HJ4.out (own_bound hO6))
        have HO6 := Lib.hid hO6
        clear hb6 hO6 HO4 HJ4 HB4
        cases R with
        | true =>
          have hsz1 : bad.size ≤ 1000 := by have := (Jr.okLine_len HRr.out).1; rw [Jr.lb_length] at this; exact this
          have hsb : sizeL [lb bad] = bad.size + 8 := rfl
          have hl4n : j4.lines.length ≤ 12 := by rw [hl4]; simp; omega
          refine (note_glue w.heap.size b2 g row4 lv4 st4 j4 xs4 700 3 bad _ (hg.below HB6.out h8) h8 HB6.out.size HJ6.out hH4 hM4b (by decide) (by omega) (by omega) (by omega) HRr.out (by rw [hr4b, hsb]; omega)).mono ?_
          intro e w7 hL
          obtain ⟨st7, j7, xs7, row7, lv7, rfl, hJ7, hH7, hM7, hr7, hc7, hl7, ht7, hb7, hF7, hR7, hV7⟩ := hL.calm hc4 HJ6.out HB6.out.size
          obtain ⟨hO7, hAp7⟩ := held_call HO6.out HAp6.out hF7 hR7 hV7
          have hB7 := HB6.out.trans hb7
          have hM7b := hM7.mono (B' := 1800) (c' := 6) (by omega) (by omega)
          clear hL hM7 hb7 hF7 hR7 hV7 HJ6 HO36 HB6 HAp6 HO6 hl7 hH4 hM4b
          go_wp2_with fail
          have hsM : sizeL (((xs.map ln).set ix bad).map lb) ≤ 2000 := by
            have := sizeL_set (xs.map ln) ix bad
            omega
          have hokM : ∀ x ∈ (xs.map ln).set ix bad, okLine (lb x) = true := fun x hx => by
            rcases List.mem_or_eq_of_mem_set hx with q | q
            · exact lines_ok hln HX.out x q
            · rw [q]; exact HRr.out
          refine (save_own w.heap.size b2 g row7 lv7 st7 j7 xs7 1800 6 v6 _ ((xs.map ln).set ix bad) _ (hg.below hB7 h8) h8 hB7.size hJ7 hH7 hM7b (by decide) (by rw [hr7, hr4b]; decide) (by omega) hO7 hAp7 (by rw [List.length_set, List.length_map]; omega) hokM (by rw [hr7, hr4b]; omega)).mono ?_
          intro e w8 hL
          obtain ⟨st8, j8, xs8, row8, lv8, rfl, hJ8, hH8, hM8, hr8, hc8, hl8, ht8, hb8, hF8, hR8, hV8⟩ := hL.calm hc7 hJ7 hB7.size
          obtain ⟨hO8, hAp8⟩ := held_call hO7 hAp7 hF8 hR8 hV8
          have hB8 := hB7.trans hb8
          have hl8b : j8.lines.map bs = (xs.map ln).set ix bad := by rw [hl8, map_bs_lb]
          have hl8n : j8.lines.length ≤ 12 := by rw [hl8, List.length_map, List.length_set, List.length_map]; omega
          clear hL hM8 hb8 hF8 hR8 hV8 hJ7 hH7 hM7b hO7 hAp7 hAp8 hB7 hl8 hH8 hsM hokM hr7 hr8 hc7 hc8 ht7 ht8
          go_wp2_with (go_at_call 13; refine (num_any _ _).mono ?_; rintro e w' ⟨rfl, rfl⟩)
          refine (lines_glue hJ8 (by omega)).mono ?_
          rintro e w9 ⟨v9, rfl, hO9, hb9⟩
          rw [hl8b] at hO9
          have hO9m : OwnLines w9 wr.heap.size v6 ((xs.map ln).set ix bad) := pw_own_below hO8 hb9
          have hB9 := hB8.trans (hb9.mono hB8.size)
          have HTT := Lib.hid (texts_on hO9 hO9m (by rw [List.length_set, List.length_map]; omega) true (decide_eq_true rfl))
          have HB9 := Lib.hid hB9
          clear hO9 hO9m hB9 hb9 hB8 hO8 hJ8 hl8b
          go_wp2_with fail
          refine (HTT.out _ (Below.refl _ _)).mono ?_
          rintro e w10 ⟨rfl, hb10⟩
          have hB10 := HB9.out.trans (hb10.mono HB9.out.size)
          clear hb10
          go_wp2_with fail
          refine (awake_any _ (hg.below hB10 h8)).mono ?_
          rintro e w11 ⟨rfl, hb11⟩
          have hB11 := hB10.trans (hb11.mono hB10.size)
          clear hb11 hB10
          go_wp2
          go_ret
          exact ⟨rfl, hB11⟩
        | false =>
          have hd4 := hH4.dead
          have g1 : gateB j4.dead [bad] = 1 := by
            rw [hd4]
            unfold gateB
            rw [if_neg (by decide), if_neg]
            simp [HRr.out]
          refine (note_gate w.heap.size b2 g row4 lv4 st4 j4.side j4.turn (j4.lines.map bs) j4.dead bad _ HJ6.out (by omega) 1 g1 (by decide)).mono ?_
          rintro e w7 ⟨rfl, hb7⟩
          have hJ7 := HJ6.out.below hb7
          have hO7 : OwnLines w7 wr.heap.size v6 ((xs.map ln).set ix bad) := pw_own_below HO6.out hb7
          have hO37 : OwnLines w7 w.heap.size _ (xs.map ln) := pw_own_below HO36.out hb7
          have hB7 := HB6.out.trans (hb7.mono HB6.out.size)
          clear hb7 HJ6 HO6 HO36 HB6 HAp6 g1
          go_wp2_with fail
          have g2 : gateB j4.dead ((xs.map ln).set ix bad) = 1 := by
            rw [hd4]
            unfold gateB
            rw [if_neg (by decide), if_neg]
            rw [List.all_eq_true]
            intro h
            have := h (lb bad) (List.mem_map.2 ⟨bad, List.mem_iff_getElem.2 ⟨ix, by rw [List.length_set]; exact hixm, by simp⟩, rfl⟩)
            rw [HRr.out] at this
            cases this
          have hls := hO7.lines
          obtain ⟨A7, c7, hv7⟩ := own_slice hO7
          rw [hv7] at hls ⊢
          refine (save_gate w.heap.size b2 g row4 lv4 st4 j4.side j4.turn (j4.lines.map bs) j4.dead A7 c7 ((xs.map ln).set ix bad) _ hJ7 hls (by rw [List.length_set, List.length_map]; omega) (fun x hx => ?_) 1 g2 (by decide)).mono ?_
          · rcases List.mem_or_eq_of_mem_set hx with q | q
            · have := (Jr.okLine_len (lines_ok hln HX.out x q)).1
              rw [Jr.lb_length] at this
              omega
            · rw [q]; omega
          rintro e w8 ⟨rfl, hb8⟩
          have hJ8 := hJ7.below hb8
          have hO38 : OwnLines w8 w.heap.size _ (xs.map ln) := pw_own_below hO37 hb8
          have hB8 := hB7.trans (hb8.mono hB7.size)
          have hl4n : j4.lines.length ≤ 12 := by rw [hl4]; simp; omega
          have hl4b : j4.lines.map bs = xs.map ln := by rw [hl4, map_bs_lb]
          clear hb8 hJ7 hO37 hB7 hls hO7 hv7 g2
          go_wp2_with (go_at_call 13; refine (num_any _ _).mono ?_; rintro e w' ⟨rfl, rfl⟩)
          refine (lines_glue hJ8 (by omega)).mono ?_
          rintro e w9 ⟨v9, rfl, hO9, hb9⟩
          rw [hl4b] at hO9
          have hO9m : OwnLines w9 w.heap.size _ (xs.map ln) := pw_own_below hO38 hb9
          have hB9 := hB8.trans (hb9.mono hB8.size)
          have HTT := Lib.hid (texts_on hO9 hO9m (by rw [List.length_map]; omega) true (decide_eq_true rfl))
          have HB9 := Lib.hid hB9
          clear hO9 hO9m hB9 hb9 hB8 hO38 hJ8 hl4b hl4
          go_wp2_with fail
          refine (HTT.out _ (Below.refl _ _)).mono ?_
          rintro e w10 ⟨rfl, hb10⟩
          have hB10 := HB9.out.trans (hb10.mono HB9.out.size)
          clear hb10
          go_wp2_with fail
          refine (awake_any _ (hg.below hB10 h8)).mono ?_
          rintro e w11 ⟨rfl, hb11⟩
          have hB11 := hB10.trans (hb11.mono hB10.size)
          clear hb11 hB10
          go_wp2
          go_ret
          exact ⟨rfl, hB11⟩
  · have e1 : (lb bad).isEmpty = false := by
      cases h : (lb bad).isEmpty with
      | false => rfl
      | true => exact absurd (hbe.1 h) e0
    by_cases e2 : (bad.size : Int) ≤ 1000
    · have hr0 : rightK (lb bad) 0 = true := by rw [hz, e1, hlb]; simp; omega
      have HE1 := Lib.hid e1
      clear hz hbe e1
      go_wp2
      go_loopw [11, 12] (fun r i wr => ∃ k : Nat, k ≤ bad.size ∧ i = .int .i64 k ∧ r = .bool (rightK (lb bad) k) ∧ wr = w4) (fun _ i _ => bad.size - (intOf i).toNat)
      case atStart => exact ⟨0, by omega, rfl, by first | (rw [hr0]; done) | (rw [hr0]; simp [List.isEmpty_iff, e0, e2]), by first | rfl | trivial⟩
      case round =>
        obtain ⟨k, hk, rfl, rfl, rfl⟩ := hrel
        by_cases hlt : k < bad.size
        · have hst := right_step (lb bad) k (by rw [hlb]; exact hlt)
          have hbk : (lb bad)[k]'(by rw [hlb]; exact hlt) = bad[k] := rfl
          cases hrk : rightK (lb bad) k with
          | true =>
            rw [hrk, Bool.true_and] at hst
            go_wp2
            go_roundw
            case rel => exact ⟨k + 1, by omega, by go_num, by rw [hst]; exact congrArg Value.bool (decide_eq_decide.2 (by rw [hbk]; omega)), by first | rfl | trivial⟩
            case measure => simp [intOf]; omega
          | false =>
            rw [hrk, Bool.false_and] at hst
            go_wp2
            go_roundw
            case rel => exact ⟨k + 1, by omega, by go_num, by rw [hst], by first | rfl | trivial⟩
            case measure => simp [intOf]; omega
        · obtain rfl : k = bad.size := by omega
          have hend : rightK (lb bad) bad.size = okLine (lb bad) := by rw [← hlb]; exact right_end _
          rw [hend]
          obtain ⟨R, hR⟩ : ∃ R, okLine (lb bad) = R := ⟨_, rfl⟩
          rw [hR]
          have HRr := Lib.hid hR
          clear hR hend hr0 hlb
          have hOE := own_empty wr wr.heap.size (Nat.le_refl _)
          have hA5 := (Below.refl wr.heap.size wr).alloc (Nat.le_refl _) (Obj.cells #[] 9)
          obtain ⟨g3, c3, rfl, hc3⟩ := own_pos hO4 (by rw [List.length_map]; omega)
          have HNW := Lib.hid (own_news (l := xs.map ln) (show OwnLines (wr.alloc (.cells #[] 9)) w.heap.size _ _ from pw_own_below hO4 hA5)).2
          have HOE := Lib.hid hOE
          have HLM := Lib.hid (show (xs.map ln).length = xs.length from List.length_map ..)
          obtain ⟨i0, hi, hz0, hz1, hz2⟩ := info_parts info9
          have Hi := Lib.hid hi
          have Hz0 := Lib.hid hz0
          have Hz1 := Lib.hid hz1
          have Hz2 := Lib.hid hz2
          clear hi hz0 hz1 hz2 hOE hc3
          have hwa := wrap_u8 ha
          obtain ⟨ix, hix, hixl⟩ : ∃ ix : Nat, (wrap64 a).tmod (xs.length : Int) = ix ∧ ix < xs.length := by
            have ha1 := ha.1
            have hp : (0 : Int) < (xs.length : Int) := by omega
            have hm1 := Int.emod_nonneg a (show (xs.length : Int) ≠ 0 by omega)
            have hm2 := Int.emod_lt_of_pos a hp
            refine ⟨(a % (xs.length : Int)).toNat, ?_, by omega⟩
            rw [hwa, Int.tmod_eq_emod_of_nonneg ha1]
            omega
          have hixm : ix < (xs.map ln).length := by rw [List.length_map]; exact hixl
          have HO4 := Lib.hid hO4
          have HJ4 := Lib.hid hJ4
          have HB4 := Lib.hid hB4
          clear hwa hO4 hJ4 hB4 hA5
          go_wp2_with (at_builtin; refine wpList_append_own_at _ rfl _ _ 34 rfl wr.heap.size 9 i0 (.string ⟨#[]⟩) 1 16 Tryd.underlying34 Hi.out Hz0.out Hz1.out Hz2.out rfl (by decide) _ _ _ rfl HOE.out ⟨g3, 0, none⟩ (xs.map ln).length c3 ((xs.map ln).map Value.string) rfl (by simp) HNW.out (by intro u hu; simp at hu; obtain ⟨y, _, rfl⟩ := hu; rfl) (by have := HLM.out; unfold maxLen; omega) (by have := HLM.out; omega) (by simp) ?_; intro v5 w5 hown5 hgrow5 _ _; obtain ⟨g5, c5, rfl, hc5⟩ := own_pos hown5 (by have := HLM.out; omega); have HOWN := Lib.hid (show OwnLines w5 wr.heap.size (.slice (some ⟨g5, 0, none⟩) (0 + (xs.map ln).length) c5) (xs.map ln) from by (have hown6 := hown5); rw [Nat.zero_add] at hown6 ⊢; exact hown6); have HGR := Lib.hid (show World.grownBy _ w5 (some wr.heap.size) from hgrow5); obtain ⟨kc, kf⟩ := own_cell HOWN.out ix hixm; clear hown5 hgrow5 hc5)
          rw [show 0 + (xs.map ln).length = xs.length from by rw [Nat.zero_add]; exact HLM.out] at HOWN
          have hO6 := own_set HOWN.out ix bad
          have hg5 : wr.heap.size ≤ g5 := own_bound HOWN.out g5 rfl
          have hb5 : Below wr.heap.size wr w5 := ((Below.refl wr.heap.size wr).alloc (Nat.le_refl _) (Obj.cells #[] 9)).grown HGR.out (by simp) (fun k e => by cases e; exact Nat.le_refl _)
          have hb6 := hb5.setCell (p := ⟨g5, ix, none⟩) hg5 (.string bad)
          generalize w5.setCell ⟨g5, ix, none⟩ (.string bad) = w6 at *
          clear hb5 HGR HOWN HNW HOE Hi Hz0 Hz1 Hz2 kc kf
          generalize Value.slice (some ⟨g5, 0, none⟩) xs.length c5 = v6 at *
          have HJ6 := Lib.hid (HJ4.out.below hb6)
          have HO36 := Lib.hid (show OwnLines w6 w.heap.size (.slice (some ⟨g3, 0, none⟩) xs.length c3) (xs.map ln) from by (have q := pw_own_below HO4.out hb6); rw [HLM.out] at q; unfold OwnLines; rw [HLM.out]; exact q)
          have HB6 := Lib.hid (HB4.out.trans (hb6.mono HB4.out.size))
          have HAp6 := Lib.hid (show Apt v6 b2 g row4 lv4 from apt_fresh HJ4.out (own_bound hO6))
          have HO6 := Lib.hid hO6
          clear hb6 hO6 HO4 HJ4 HB4
          cases R with
          | true =>
            have hsz1 : bad.size ≤ 1000 := by have := (Jr.okLine_len HRr.out).1; rw [Jr.lb_length] at this; exact this
            have hsb : sizeL [lb bad] = bad.size + 8 := rfl
            have hl4n : j4.lines.length ≤ 12 := by rw [hl4]; simp; omega
            refine (note_glue w.heap.size b2 g row4 lv4 st4 j4 xs4 700 3 bad _ (hg.below HB6.out h8) h8 HB6.out.size HJ6.out hH4 hM4b (by decide) (by omega) (by omega) (by omega) HRr.out (by rw [hr4b, hsb]; omega)).mono ?_
            intro e w7 hL
            obtain ⟨st7, j7, xs7, row7, lv7, rfl, hJ7, hH7, hM7, hr7, hc7, hl7, ht7, hb7, hF7, hR7, hV7⟩ := hL.calm hc4 HJ6.out HB6.out.size
            obtain ⟨hO7, hAp7⟩ := held_call HO6.out HAp6.out hF7 hR7 hV7
            have hB7 := HB6.out.trans hb7
            have hM7b := hM7.mono (B' := 1800) (c' := 6) (by omega) (by omega)
            clear hL hM7 hb7 hF7 hR7 hV7 HJ6 HO36 HB6 HAp6 HO6 hl7 hH4 hM4b
            go_wp2_with fail
            have hsM : sizeL (((xs.map ln).set ix bad).map lb) ≤ 2000 := by
              have := sizeL_set (xs.map ln) ix bad
              omega
            have hokM : ∀ x ∈ (xs.map ln).set ix bad, okLine (lb x) = true := fun x hx => by
              rcases List.mem_or_eq_of_mem_set hx with q | q
              · exact lines_ok hln HX.out x q
              · rw [q]; exact HRr.out
            refine (save_own w.heap.size b2 g row7 lv7 st7 j7 xs7 1800 6 v6 _ ((xs.map ln).set ix bad) _ (hg.below hB7 h8) h8 hB7.size hJ7 hH7 hM7b (by decide) (by rw [hr7, hr4b]; decide) (by omega) hO7 hAp7 (by rw [List.length_set, List.length_map]; omega) hokM (by rw [hr7, hr4b]; omega)).mono ?_
            intro e w8 hL
            obtain ⟨st8, j8, xs8, row8, lv8, rfl, hJ8, hH8, hM8, hr8, hc8, hl8, ht8, hb8, hF8, hR8, hV8⟩ := hL.calm hc7 hJ7 hB7.size
            obtain ⟨hO8, hAp8⟩ := held_call hO7 hAp7 hF8 hR8 hV8
            have hB8 := hB7.trans hb8
            have hl8b : j8.lines.map bs = (xs.map ln).set ix bad := by rw [hl8, map_bs_lb]
            have hl8n : j8.lines.length ≤ 12 := by rw [hl8, List.length_map, List.length_set, List.length_map]; omega
            clear hL hM8 hb8 hF8 hR8 hV8 hJ7 hH7 hM7b hO7 hAp7 hAp8 hB7 hl8 hH8 hsM hokM hr7 hr8 hc7 hc8 ht7 ht8
            go_wp2_with (go_at_call 13; refine (num_any _ _).mono ?_; rintro e w' ⟨rfl, rfl⟩)
            refine (lines_glue hJ8 (by omega)).mono ?_
            rintro e w9 ⟨v9, rfl, hO9, hb9⟩
            rw [hl8b] at hO9
            have hO9m : OwnLines w9 wr.heap.size v6 ((xs.map ln).set ix bad) := pw_own_below hO8 hb9
            have hB9 := hB8.trans (hb9.mono hB8.size)
            have HTT := Lib.hid (texts_on hO9 hO9m (by rw [List.length_set, List.length_map]; omega) true (decide_eq_true rfl))
            have HB9 := Lib.hid hB9
            clear hO9 hO9m hB9 hb9 hB8 hO8 hJ8 hl8b
            go_wp2_with fail
            refine (HTT.out _ (Below.refl _ _)).mono ?_
            rintro e w10 ⟨rfl, hb10⟩
            have hB10 := HB9.out.trans (hb10.mono HB9.out.size)
            clear hb10
            go_wp2_with fail
            refine (awake_any _ (hg.below hB10 h8)).mono ?_
            rintro e w11 ⟨rfl, hb11⟩
            have hB11 := hB10.trans (hb11.mono hB10.size)
            clear hb11 hB10
            go_wp2
            go_ret
            exact ⟨rfl, hB11⟩
          | false =>
            have hd4 := hH4.dead
            have g1 : gateB j4.dead [bad] = 1 := by
              rw [hd4]
              unfold gateB
              rw [if_neg (by decide), if_neg]
              simp [HRr.out]
            refine (note_gate w.heap.size b2 g row4 lv4 st4 j4.side j4.turn (j4.lines.map bs) j4.dead bad _ HJ6.out (by omega) 1 g1 (by decide)).mono ?_
            rintro e w7 ⟨rfl, hb7⟩
            have hJ7 := HJ6.out.below hb7
            have hO7 : OwnLines w7 wr.heap.size v6 ((xs.map ln).set ix bad) := pw_own_below HO6.out hb7
            have hO37 : OwnLines w7 w.heap.size _ (xs.map ln) := pw_own_below HO36.out hb7
            have hB7 := HB6.out.trans (hb7.mono HB6.out.size)
            clear hb7 HJ6 HO6 HO36 HB6 HAp6 g1
            go_wp2_with fail
            have g2 : gateB j4.dead ((xs.map ln).set ix bad) = 1 := by
              rw [hd4]
              unfold gateB
              rw [if_neg (by decide), if_neg]
              rw [List.all_eq_true]
              intro h
              have := h (lb bad) (List.mem_map.2 ⟨bad, List.mem_iff_getElem.2 ⟨ix, by rw [List.length_set]; exact hixm, by simp⟩, rfl⟩)
              rw [HRr.out] at this
              cases this
            have hls := hO7.lines
            obtain ⟨A7, c7, hv7⟩ := own_slice hO7
            rw [hv7] at hls ⊢
            refine (save_gate w.heap.size b2 g row4 lv4 st4 j4.side j4.turn (j4.lines.map bs) j4.dead A7 c7 ((xs.map ln).set ix bad) _ hJ7 hls (by rw [List.length_set, List.length_map]; omega) (fun x hx => ?_) 1 g2 (by decide)).mono ?_
            · rcases List.mem_or_eq_of_mem_set hx with q | q
              · have := (Jr.okLine_len (lines_ok hln HX.out x q)).1
                rw [Jr.lb_length] at this
                omega
              · rw [q]; omega
            rintro e w8 ⟨rfl, hb8⟩
            have hJ8 := hJ7.below hb8
            have hO38 : OwnLines w8 w.heap.size _ (xs.map ln) := pw_own_below hO37 hb8
            have hB8 := hB7.trans (hb8.mono hB7.size)
            have hl4n : j4.lines.length ≤ 12 := by rw [hl4]; simp; omega
            have hl4b : j4.lines.map bs = xs.map ln := by rw [hl4, map_bs_lb]
            clear hb8 hJ7 hO37 hB7 hls hO7 hv7 g2
            go_wp2_with (go_at_call 13; refine (num_any _ _).mono ?_; rintro e w' ⟨rfl, rfl⟩)
            refine (lines_glue hJ8 (by omega)).mono ?_
            rintro e w9 ⟨v9, rfl, hO9, hb9⟩
            rw [hl4b] at hO9
            have hO9m : OwnLines w9 w.heap.size _ (xs.map ln) := pw_own_below hO38 hb9
            have hB9 := hB8.trans (hb9.mono hB8.size)
            have HTT := Lib.hid (texts_on hO9 hO9m (by rw [List.length_map]; omega) true (decide_eq_true rfl))
            have HB9 := Lib.hid hB9
            clear hO9 hO9m hB9 hb9 hB8 hO38 hJ8 hl4b hl4
            go_wp2_with fail
            refine (HTT.out _ (Below.refl _ _)).mono ?_
            rintro e w10 ⟨rfl, hb10⟩
            have hB10 := HB9.out.trans (hb10.mono HB9.out.size)
            clear hb10
            go_wp2_with fail
            refine (awake_any _ (hg.below hB10 h8)).mono ?_
            rintro e w11 ⟨rfl, hb11⟩
            have hB11 := hB10.trans (hb11.mono hB10.size)
            clear hb11 hB10
            go_wp2
            go_ret
            exact ⟨rfl, hB11⟩
    · have hr0 : rightK (lb bad) 0 = false := by rw [hz, e1, hlb]; simp; omega
      have HE1 := Lib.hid e1
      clear hz hbe e1
      go_wp2
      go_loopw [11, 12] (fun r i wr => ∃ k : Nat, k ≤ bad.size ∧ i = .int .i64 k ∧ r = .bool (rightK (lb bad) k) ∧ wr = w4) (fun _ i _ => bad.size - (intOf i).toNat)
      case atStart => exact ⟨0, by omega, rfl, by first | (rw [hr0]; done) | (rw [hr0]; simp [List.isEmpty_iff, e0, e2]), by first | rfl | trivial⟩
      case round =>
        obtain ⟨k, hk, rfl, rfl, rfl⟩ := hrel
        by_cases hlt : k < bad.size
        · have hst := right_step (lb bad) k (by rw [hlb]; exact hlt)
          have hbk : (lb bad)[k]'(by rw [hlb]; exact hlt) = bad[k] := rfl
          cases hrk : rightK (lb bad) k with
          | true =>
            rw [hrk, Bool.true_and] at hst
            go_wp2
            go_roundw
            case rel => exact ⟨k + 1, by omega, by go_num, by rw [hst]; exact congrArg Value.bool (decide_eq_decide.2 (by rw [hbk]; omega)), by first | rfl | trivial⟩
            case measure => simp [intOf]; omega
          | false =>
            rw [hrk, Bool.false_and] at hst
            go_wp2
            go_roundw
            case rel => exact ⟨k + 1, by omega, by go_num, by rw [hst], by first | rfl | trivial⟩
            case measure => simp [intOf]; omega
        · obtain rfl : k = bad.size := by omega
          have hend : rightK (lb bad) bad.size = okLine (lb bad) := by rw [← hlb]; exact right_end _
          rw [hend]
          obtain ⟨R, hR⟩ : ∃ R, okLine (lb bad) = R := ⟨_, rfl⟩
          rw [hR]
          have HRr := Lib.hid hR
          clear hR hend hr0 hlb
          have hOE := own_empty wr wr.heap.size (Nat.le_refl _)
          have hA5 := (Below.refl wr.heap.size wr).alloc (Nat.le_refl _) (Obj.cells #[] 9)
          obtain ⟨g3, c3, rfl, hc3⟩ := own_pos hO4 (by rw [List.length_map]; omega)
          have HNW := Lib.hid (own_news (l := xs.map ln) (show OwnLines (wr.alloc (.cells #[] 9)) w.heap.size _ _ from pw_own_below hO4 hA5)).2
          have HOE := Lib.hid hOE
          have HLM := Lib.hid (show (xs.map ln).length = xs.length from List.length_map ..)
          obtain ⟨i0, hi, hz0, hz1, hz2⟩ := info_parts info9
          have Hi := Lib.hid hi
          have Hz0 := Lib.hid hz0
          have Hz1 := Lib.hid hz1
          have Hz2 := Lib.hid hz2
          clear hi hz0 hz1 hz2 hOE hc3
          have hwa := wrap_u8 ha
          obtain ⟨ix, hix, hixl⟩ : ∃ ix : Nat, (wrap64 a).tmod (xs.length : Int) = ix ∧ ix < xs.length := by
            have ha1 := ha.1
            have hp : (0 : Int) < (xs.length : Int) := by omega
            have hm1 := Int.emod_nonneg a (show (xs.length : Int) ≠ 0 by omega)
            have hm2 := Int.emod_lt_of_pos a hp
            refine ⟨(a % (xs.length : Int)).toNat, ?_, by omega⟩
            rw [hwa, Int.tmod_eq_emod_of_nonneg ha1]
            omega
          have hixm : ix < (xs.map ln).length := by rw [List.length_map]; exact hixl
          have HO4 := Lib.hid hO4
          have HJ4 := Lib.hid hJ4
          have HB4 := Lib.hid hB4
          clear hwa hO4 hJ4 hB4 hA5
          go_wp2_with (at_builtin; refine wpList_append_own_at _ rfl _ _ 34 rfl wr.heap.size 9 i0 (.string ⟨#[]⟩) 1 16 Tryd.underlying34 Hi.out Hz0.out Hz1.out Hz2.out rfl (by decide) _ _ _ rfl HOE.out ⟨g3, 0, none⟩ (xs.map ln).length c3 ((xs.map ln).map Value.string) rfl (by simp) HNW.out (by intro u hu; simp at hu; obtain ⟨y, _, rfl⟩ := hu; rfl) (by have := HLM.out; unfold maxLen; omega) (by have := HLM.out; omega) (by simp) ?_; intro v5 w5 hown5 hgrow5 _ _; obtain ⟨g5, c5, rfl, hc5⟩ := own_pos hown5 (by have := HLM.out; omega); have HOWN := Lib.hid (show OwnLines w5 wr.heap.size (.slice (some ⟨g5, 0, none⟩) (0 + (xs.map ln).length) c5) (xs.map ln) from by (have hown6 := hown5); rw [Nat.zero_add] at hown6 ⊢; exact hown6); have HGR := Lib.hid (show World.grownBy _ w5 (some wr.heap.size) from hgrow5); obtain ⟨kc, kf⟩ := own_cell HOWN.out ix hixm; clear hown5 hgrow5 hc5)
          rw [show 0 + (xs.map ln).length = xs.length from by rw [Nat.zero_add]; exact HLM.out] at HOWN
          have hO6 := own_set HOWN.out ix bad
          have hg5 : wr.heap.size ≤ g5 := own_bound HOWN.out g5 rfl
          have hb5 : Below wr.heap.size wr w5 := ((Below.refl wr.heap.size wr).alloc (Nat.le_refl _) (Obj.cells #[] 9)).grown HGR.out (by simp) (fun k e => by cases e; exact Nat.le_refl _)
          have hb6 := hb5.setCell (p := ⟨g5, ix, none⟩) hg5 (.string bad)
          generalize w5.setCell ⟨g5, ix, none⟩ (.string bad) = w6 at *
          clear hb5 HGR HOWN HNW HOE Hi Hz0 Hz1 Hz2 kc kf
          generalize Value.slice (some ⟨g5, 0, none⟩) xs.length c5 = v6 at *
          have HJ6 := Lib.hid (HJ4.out.below hb6)
          have HO36 := Lib.hid (show OwnLines w6 w.heap.size (.slice (some ⟨g3, 0, none⟩) xs.length c3) (xs.map ln) from by (have q := pw_own_below HO4.out hb6); rw [HLM.out] at q; unfold OwnLines; rw [HLM.out]; exact q)
          have HB6 := Lib.hid (HB4.out.trans (hb6.mono HB4.out.size))
          have HAp6 := Lib.hid (show Apt v6 b2 g row4 lv4 from apt_fresh HJ4.out (own_bound hO6))
          have HO6 := Lib.hid hO6
          clear hb6 hO6 HO4 HJ4 HB4
          cases R with
          | true =>
            have hsz1 : bad.size ≤ 1000 := by have := (Jr.okLine_len HRr.out).1; rw [Jr.lb_length] at this; exact this
            have hsb : sizeL [lb bad] = bad.size + 8 := rfl
            have hl4n : j4.lines.length ≤ 12 := by rw [hl4]; simp; omega
            refine (note_glue w.heap.size b2 g row4 lv4 st4 j4 xs4 700 3 bad _ (hg.below HB6.out h8) h8 HB6.out.size HJ6.out hH4 hM4b (by decide) (by omega) (by omega) (by omega) HRr.out (by rw [hr4b, hsb]; omega)).mono ?_
            intro e w7 hL
            obtain ⟨st7, j7, xs7, row7, lv7, rfl, hJ7, hH7, hM7, hr7, hc7, hl7, ht7, hb7, hF7, hR7, hV7⟩ := hL.calm hc4 HJ6.out HB6.out.size
            obtain ⟨hO7, hAp7⟩ := held_call HO6.out HAp6.out hF7 hR7 hV7
            have hB7 := HB6.out.trans hb7
            have hM7b := hM7.mono (B' := 1800) (c' := 6) (by omega) (by omega)
            clear hL hM7 hb7 hF7 hR7 hV7 HJ6 HO36 HB6 HAp6 HO6 hl7 hH4 hM4b
            go_wp2_with fail
            have hsM : sizeL (((xs.map ln).set ix bad).map lb) ≤ 2000 := by
              have := sizeL_set (xs.map ln) ix bad
              omega
            have hokM : ∀ x ∈ (xs.map ln).set ix bad, okLine (lb x) = true := fun x hx => by
              rcases List.mem_or_eq_of_mem_set hx with q | q
              · exact lines_ok hln HX.out x q
              · rw [q]; exact HRr.out
            refine (save_own w.heap.size b2 g row7 lv7 st7 j7 xs7 1800 6 v6 _ ((xs.map ln).set ix bad) _ (hg.below hB7 h8) h8 hB7.size hJ7 hH7 hM7b (by decide) (by rw [hr7, hr4b]; decide) (by omega) hO7 hAp7 (by rw [List.length_set, List.length_map]; omega) hokM (by rw [hr7, hr4b]; omega)).mono ?_
            intro e w8 hL
            obtain ⟨st8, j8, xs8, row8, lv8, rfl, hJ8, hH8, hM8, hr8, hc8, hl8, ht8, hb8, hF8, hR8, hV8⟩ := hL.calm hc7 hJ7 hB7.size
            obtain ⟨hO8, hAp8⟩ := held_call hO7 hAp7 hF8 hR8 hV8
            have hB8 := hB7.trans hb8
            have hl8b : j8.lines.map bs = (xs.map ln).set ix bad := by rw [hl8, map_bs_lb]
            have hl8n : j8.lines.length ≤ 12 := by rw [hl8, List.length_map, List.length_set, List.length_map]; omega
            clear hL hM8 hb8 hF8 hR8 hV8 hJ7 hH7 hM7b hO7 hAp7 hAp8 hB7 hl8 hH8 hsM hokM hr7 hr8 hc7 hc8 ht7 ht8
            go_wp2_with (go_at_call 13; refine (num_any _ _).mono ?_; rintro e w' ⟨rfl, rfl⟩)
            refine (lines_glue hJ8 (by omega)).mono ?_
            rintro e w9 ⟨v9, rfl, hO9, hb9⟩
            rw [hl8b] at hO9
            have hO9m : OwnLines w9 wr.heap.size v6 ((xs.map ln).set ix bad) := pw_own_below hO8 hb9
            have hB9 := hB8.trans (hb9.mono hB8.size)
            have HTT := Lib.hid (texts_on hO9 hO9m (by rw [List.length_set, List.length_map]; omega) true (decide_eq_true rfl))
            have HB9 := Lib.hid hB9
            clear hO9 hO9m hB9 hb9 hB8 hO8 hJ8 hl8b
            go_wp2_with fail
            refine (HTT.out _ (Below.refl _ _)).mono ?_
            rintro e w10 ⟨rfl, hb10⟩
            have hB10 := HB9.out.trans (hb10.mono HB9.out.size)
            clear hb10
            go_wp2_with fail
            refine (awake_any _ (hg.below hB10 h8)).mono ?_
            rintro e w11 ⟨rfl, hb11⟩
            have hB11 := hB10.trans (hb11.mono hB10.size)
            clear hb11 hB10
            go_wp2
            go_ret
            exact ⟨rfl, hB11⟩
          | false =>
            have hd4 := hH4.dead
            have g1 : gateB j4.dead [bad] = 1 := by
              rw [hd4]
              unfold gateB
              rw [if_neg (by decide), if_neg]
              simp [HRr.out]
            refine (note_gate w.heap.size b2 g row4 lv4 st4 j4.side j4.turn (j4.lines.map bs) j4.dead bad _ HJ6.out (by omega) 1 g1 (by decide)).mono ?_
            rintro e w7 ⟨rfl, hb7⟩
            have hJ7 := HJ6.out.below hb7
            have hO7 : OwnLines w7 wr.heap.size v6 ((xs.map ln).set ix bad) := pw_own_below HO6.out hb7
            have hO37 : OwnLines w7 w.heap.size _ (xs.map ln) := pw_own_below HO36.out hb7
            have hB7 := HB6.out.trans (hb7.mono HB6.out.size)
            clear hb7 HJ6 HO6 HO36 HB6 HAp6 g1
            go_wp2_with fail
            have g2 : gateB j4.dead ((xs.map ln).set ix bad) = 1 := by
              rw [hd4]
              unfold gateB
              rw [if_neg (by decide), if_neg]
              rw [List.all_eq_true]
              intro h
              have := h (lb bad) (List.mem_map.2 ⟨bad, List.mem_iff_getElem.2 ⟨ix, by rw [List.length_set]; exact hixm, by simp⟩, rfl⟩)
              rw [HRr.out] at this
              cases this
            have hls := hO7.lines
            obtain ⟨A7, c7, hv7⟩ := own_slice hO7
            rw [hv7] at hls ⊢
            refine (save_gate w.heap.size b2 g row4 lv4 st4 j4.side j4.turn (j4.lines.map bs) j4.dead A7 c7 ((xs.map ln).set ix bad) _ hJ7 hls (by rw [List.length_set, List.length_map]; omega) (fun x hx => ?_) 1 g2 (by decide)).mono ?_
            · rcases List.mem_or_eq_of_mem_set hx with q | q
              · have := (Jr.okLine_len (lines_ok hln HX.out x q)).1
                rw [Jr.lb_length] at this
                omega
              · rw [q]; omega
            rintro e w8 ⟨rfl, hb8⟩
            have hJ8 := hJ7.below hb8
            have hO38 : OwnLines w8 w.heap.size _ (xs.map ln) := pw_own_below hO37 hb8
            have hB8 := hB7.trans (hb8.mono hB7.size)
            have hl4n : j4.lines.length ≤ 12 := by rw [hl4]; simp; omega
            have hl4b : j4.lines.map bs = xs.map ln := by rw [hl4, map_bs_lb]
            clear hb8 hJ7 hO37 hB7 hls hO7 hv7 g2
            go_wp2_with (go_at_call 13; refine (num_any _ _).mono ?_; rintro e w' ⟨rfl, rfl⟩)
            refine (lines_glue hJ8 (by omega)).mono ?_
            rintro e w9 ⟨v9, rfl, hO9, hb9⟩
            rw [hl4b] at hO9
            have hO9m : OwnLines w9 w.heap.size _ (xs.map ln) := pw_own_below hO38 hb9
            have hB9 := hB8.trans (hb9.mono hB8.size)
            have HTT := Lib.hid (texts_on hO9 hO9m (by rw [List.length_map]; omega) true (decide_eq_true rfl))
            have HB9 := Lib.hid hB9
            clear hO9 hO9m hB9 hb9 hB8 hO38 hJ8 hl4b hl4
            go_wp2_with fail
            refine (HTT.out _ (Below.refl _ _)).mono ?_
            rintro e w10 ⟨rfl, hb10⟩
            have hB10 := HB9.out.trans (hb10.mono HB9.out.size)
            clear hb10
            go_wp2_with fail
            refine (awake_any _ (hg.below hB10 h8)).mono ?_
            rintro e w11 ⟨rfl, hb11⟩
            have hB11 := hB10.trans (hb11.mono hB10.size)
            clear hb11 hB10
            go_wp2
            go_ret
            exact ⟨rfl, hB11⟩
end Go.Proofs.YtepcagakegbjfaaDoor
namespace Go.Proofs.YtepcagakegbjfaaDoor.journalRefuses
open Go.ChangeShapes Go.WideShapes Go.ChangeAt Go.RowKit
open Go.ChangeMaps (open_string shut_string)
set_option linter.unusedVariables false

theorem own : ownKnob Tryd.prog.godebug = none := by kernel_rfl

set_option maxRecDepth 100000 in
theorem lifted (os : Os) (started : os.Started) (H : Type) (enc : TypeId × Value → H) :
    ReturnsInHanded {} Tryd.checked os 4 .any (fun w args => (Rows.journalRefusesSpec.pre enc Tryd.prog Tryd.f4 Rows.journalRefusesRow.domain false w args ∧ laidMetH Tryd.prog Rows.journalRefusesRow.laid w) ∧ sizedMet enc Tryd.prog Tryd.f4 (OpenSpec.ofChange Rows.journalRefusesSpec) false w args)
      (Rows.journalRefusesSpec.post enc Tryd.prog Tryd.f4 false true false false) := by
  refine handed_both (C := Tryd.checked) (X := fun w _ => laidMetH Tryd.prog Rows.journalRefusesRow.laid w) (fun _ _ _ hh h => h.of_heap hh) own started (by kernel_rfl) Tryd.func4
    (ChangeSpec.witness_shaped (enc := enc) (C := Tryd.checked) (os := os) (X := fun w _ => laidMetH Tryd.prog Rows.journalRefusesRow.laid w) false (World.laidAll Tryd.prog os Rows.journalRefusesRow.laid) #[.slice none 0 0, .string ByteArray.empty, .int .u8 0] 8 (World.laidAll_os _ _ _)
      (World.shaped_of_ZipB (by kernel_rfl) (by kernel_rfl)) (by kernel_rfl) (by kernel_rfl) (by kernel_rfl)
      (by rw [MakeChecks.laidMetH_plain _ _ _ (by kernel_rfl)]; exact laidMet_laidAll _ (by kernel_rfl) (by kernel_rfl))) ?_
  intro W base args ds gs before hval0 hW hS hL
  have hval : ∀ (j : Nat) t v, Tryd.f4.params[j]? = some t → args[j]? = some v → Value.okWide Tryd.prog W .any base t v := hval0
  have hW' := hW
  obtain ⟨p, q, hA0, hV, rfl, hfz, hnd⟩ := hW
  have hA : DataW.TrodAll enc Tryd.prog W 0 (fun _ => true) true Tryd.f4.params.toList args.toList ds p := hA0
  rw [Tryd.params4] at hA hval
  obtain ⟨v0, vs0, d0, ds0, p0, q0, hargs, rfl, rfl, h0, r0⟩ := trodAll_cons hA
  obtain ⟨v1, vs1, d1, ds1, p1, q1, rfl, rfl, rfl, h1, r1⟩ := trodAll_cons r0
  obtain ⟨v2, vs2, d2, ds2, p2, q2, rfl, rfl, rfl, h2, r2⟩ := trodAll_cons r1
  obtain ⟨rfl, rfl, rfl⟩ := trodAll_nil r2
  obtain rfl : args = #[v0, v1, v2] := by cases args; simp_all
  obtain ⟨rfl, rfl⟩ := trodVars_none hV
  have k0 := h0
  have lt0 : ∀ x ∈ p0, x.block < W.heap.size := by obtain ⟨m, hm⟩ := k0; exact DataW.trod_lt m _ _ _ hm
  obtain ⟨xs, A, c, rfl, hc, hC, hU⟩ := bytes_open (okWide_slice Tryd.underlying35 (hval 0 35 v0 rfl rfl)) h0
  obtain ⟨a1, rfl, rfl, rfl, w1⟩ := open_string Tryd.underlying9 (hval 1 9 v1 rfl rfl) h1
  obtain ⟨a2, rfl, rfl, rfl, w2⟩ := open_int Tryd.underlying5 (hval 2 5 v2 rfl rfl) h2
  clear hA0 hval0
  refine (refuses_any lineI lineSpec xs A c a1 a2 hU (u8_of w2) W (gl_of hL hS) hC hc).mono fun e W' ⟨he, bel⟩ => ?_
  subst he
  exact ⟨_, rfl, _, _, _, [], _, [], hW', trodAll_mk1 (shut_bool Tryd.underlying4 _), (trodAll_cons_mk (Below.trod laidOut (by kernel_rfl) (of_decide_eq_true (by kernel_rfl)) k0 bel lt0) (trodAll_cons_mk (shut_string Tryd.underlying9 w1) (trodAll_cons_mk (shut_int Tryd.underlying5 w2) trodAll_mk0))), rfl, bel.frame _, fun h => by cases h⟩

/-- The row's statement. -/
theorem row_holds : Rows.JournalRefusesSaid :=
  OpenClaim.holds_of_wide 4 Tryd.f4 rfl rfl rfl rfl rfl rfl rfl ⟨rfl, rfl, rfl, rfl, rfl⟩ rfl rfl rfl rfl rfl (by kernel_rfl) Tryd.func4 (by kernel_rfl)
    (of_decide_eq_true (by kernel_rfl)) (by unfold Func.isWrapper; first | (rw [if_pos (by decide +kernel)]; kernel_rfl) | (rw [if_neg (by decide +kernel)]; exact ⟨rfl, rfl⟩))
    (fun os started H enc _ => lifted os started H enc)
/-- The statement: the tied card. -/
theorem proved : Rows.JournalRefusesCardSaid :=
  Claim7.holds_tied_plain_at .later [] [.data, .data, .data, .data, .sentinel, .sentinel, .pinned] true (true, "da1c6e6e57c94f45f9efa7391f33bfb80085fc88f3d189c72144fcdf8e4489a7") true
    row_holds (fun _ h => by cases h) (by kernel_rfl) (fun _ h => by cases h) journalRefuses_row_tie rfl ⟨rfl, rfl⟩ (by kernel_rfl) rfl
    (fun f fn hf hfn => by
      obtain rfl : f = 4 := Option.some.inj ((show Tryd.prog.funcNamed Rows.journalRefusesRow.func = some 4 by kernel_rfl).symm.trans hf) |>.symm
      obtain rfl : fn = Tryd.f4 := (Option.some.inj (Tryd.func4.symm.trans hfn)).symm
      exact ⟨by kernel_rfl, fun j t ht => by
        rw [Tryd.params4] at ht
        have hall : ∀ t ∈ [35, 9, 5], Tryd.prog.wantsStandIn t = false := by
          intro t ht
          simp only [List.mem_cons, List.mem_nil_iff, or_false] at ht
          rcases ht with rfl | rfl | rfl <;> kernel_rfl
        refine hall t (List.mem_of_getElem? (l := [35, 9, 5]) (i := j) ?_)
        simpa using ht⟩)
    (by kernel_rfl)
end Go.Proofs.YtepcagakegbjfaaDoor.journalRefuses
#print axioms Go.Proofs.YtepcagakegbjfaaDoor.journalRefuses.proved
