/- Many notes of a journal stand in their order, and a save takes their place: for every two numbers of eight bits; package variables of Go as its own text lays them; no other condition. -/
import Derived.Test.YtepcagakegbjfaaDoorGf
import Derived.Test.YtepcagakegbjfaaDoorTie
import Derived.Test.YtepcagakegbjfaaDoorCards
import Derived.WalkKit
import Derived.ProofKit
import Derived.OpenShut
import Derived.ShutString
import Derived.ChangeOld
import Derived.Below
import Derived.LaidMore
import Derived.Lay
import Derived.SevenTiedAt
import Derived.Stop.Joined
/- JournalMany: many notes stand in their order; a save takes their place. -/
namespace Go.Proofs.YtepcagakegbjfaaDoor
open Go.RowKit Go.Proofs.YtepcagakegbjfaaDoorW.PrintWords
open Jr (bs lb bs_lb lb_bs bs_app okLine TapeSt addF sealF wipeF fallF newSt Has Mes Out Down Jn Sd sizeL)

abbrev savedB : ByteArray := ⟨#[115, 97, 118, 101, 100]⟩
def lstM (ln : Int → ByteArray) (s : Int) : Nat → List ByteArray
  | 0 => []
  | k + 1 => if (k : Int) = s then [savedB] else lstM ln s k ++ [ln k]
theorem lstM_len (ln : Int → ByteArray) (s : Int) : ∀ k, (lstM ln s k).length ≤ k + 1
  | 0 => by simp [lstM]
  | k + 1 => by
    have := lstM_len ln s k
    unfold lstM
    split
    · simp
    · rw [List.length_append]
      simp only [List.length_singleton]
      omega
set_option maxHeartbeats 3200000 in
theorem many_any (ln : Int → ByteArray) (hln : LineSpec ln) (n s : Int) (hn : U8 n) (hs : U8 s) (w : World) (hg : Gl w) : Calls Tryd.prog 6 #[.int .u8 n, .int .u8 s] w fun e w' => e = .returned (.bool true) ∧ Below w.heap.size w w' := by
  have h8 := hg.many
  have hn1 := hn.1
  have hn2 := hn.2
  have hs1 := hs.1
  have hs2 := hs.2
  clear hn hs
  go_enter Tryd.func6, Tryd.ntmps6
  go_wp2_with fail
  refine (new_any 262144 0 0 0 _).mono ?_
  rintro e w1 ⟨g, rfl, hT, hb1⟩
  go_wp2_with fail
  refine (open_glue w.heap.size g none _ ⟨0, 0, [], false⟩ [] 0 0 _ (hg.below hb1 h8) hb1.size hT (Jr.has_new ..) (mes_new ..) (by decide) (by decide)).mono ?_
  rintro e w2 ⟨lv, rfl, hJ2, hb2, _⟩
  have hB2 := hb1.trans (hb2.mono hb1.size)
  have HJ2 := Lib.hid hJ2
  have HB2 := Lib.hid hB2
  clear hb1 hb2 hT hB2 hJ2
  generalize w1.heap.size = b at *
  go_wp2_with fail
  refine (num_any 0 _).mono ?_
  rintro e w' ⟨rfl, rfl⟩
  go_wp2
  go_loopw [8, 9, 10] (fun v i f wr => ∃ (k : Nat) (row : Option Nat) (lv : Value) (st : TapeSt) (j : Jn) (xs : List Jr.S), (k : Int) ≤ n % 60 ∧ i = .int .i64 k ∧ Hid (OwnLines wr w.heap.size v (lstM ln (s % 60) k) ∧ Apt v b g row lv ∧ Jat wr w.heap.size b g row lv st j ∧ Has st j xs ∧ Mes st (k * 120) (k * 6) ∧ j.lines = (lstM ln (s % 60) k).map lb ∧ j.turn ≤ 2 * k ∧ st.room = 262144 ∧ st.crash = 0 ∧ Below w.heap.size w wr)) (fun _ i _ _ => 60 - (intOf i).toNat)
  case atStart => exact ⟨0, none, lv, _, _, [], by omega, rfl, Lib.hid ⟨own_none _ _, apt_nil _ _ _ _, HJ2.out, Jr.has_new .., mes_new .., rfl, Int.le_refl _, rfl, rfl, HB2.out⟩⟩
  case round =>
    obtain ⟨k, row, lv3, st, j, xs, hk, rfl, HH⟩ := hrel
    by_cases hlt : (k : Int) < n % 60
    · have hk60 : k < 60 := by omega
      have hu : U8 (k : Int) := ⟨by omega, by omega⟩
      have hsz := (hln.ok _ hu).1
      have HOK := Lib.hid (hln.ok _ hu).2
      have hgw := hg.below HH.out.2.2.2.2.2.2.2.2.2 h8
      go_wp2_with fail
      refine (hln.line _ _ hu).mono ?_
      rintro e w3 ⟨rfl, hb3⟩
      have hA3 := (Below.refl w3.heap.size w3).alloc (Nat.le_refl _) (Obj.cells #[.string (ln (k : Int))] 9)
      have hb3a := hb3.trans (hA3.mono hb3.size)
      have HO3 := Lib.hid (show (w3.alloc (.cells #[.string (ln (k : Int))] 9)).ownsRow w.heap.size 9 1 u8 (lstM ln (s % 60) k).length ((lstM ln (s % 60) k).map Value.string) from pw_own_below HH.out.1 hb3a)
      have HJ3 := Lib.hid (HH.out.2.2.1.below hb3a)
      have hB3 := HH.out.2.2.2.2.2.2.2.2.2.trans (hb3a.mono HH.out.2.2.2.2.2.2.2.2.2.size)
      have HB3 := Lib.hid hB3
      have HSZ := Lib.hid hB3.size
      have HLN := Lib.hid (lstM_len ln (s % 60) k)
      obtain ⟨i0, hi, hz0, hz1, hz2⟩ := info_parts info9
      have Hi := Lib.hid hi
      have Hz0 := Lib.hid hz0
      have Hz1 := Lib.hid hz1
      have Hz2 := Lib.hid hz2
      clear hi hz0 hz1 hz2 hb3 hA3 hb3a hB3
      go_wp2_with (at_builtin; refine wpList_append_own_at _ rfl _ _ 34 rfl w.heap.size 9 i0 (.string ⟨#[]⟩) 1 16 Tryd.underlying34 Hi.out Hz0.out Hz1.out Hz2.out rfl (by decide) _ _ _ rfl HO3.out ⟨w3.heap.size, 0, none⟩ 1 1 [.string (ln (k : Int))] rfl rfl (cell_one_new _ _ _) (by intro u hu; simp at hu; subst hu; rfl) (by have := HLN.out; unfold maxLen; omega) (by have := HLN.out; omega) HSZ.out ?_; intro v5 w5 hown5 hgrow hnil hat; have HOWN5 := Lib.hid hown5; have HGR := Lib.hid hgrow; have HAT := Lib.hid hat; clear hown5 hgrow hnil hat)
      have H5 := Lib.hid (held_append HJ3.out HO3.out (show Apt u8 b g row lv3 from HH.out.2.1) HB3.out HSZ.out HOWN5.out HGR.out HAT.out)
      clear HOWN5 HGR HAT HJ3 HB3 HSZ HLN HO3 hgw Hi Hz0 Hz1 Hz2
      have hgw := hg.below H5.out.2.2.2 h8
      go_wp2_with fail
      refine (hln.line _ _ hu).mono ?_
      rintro e w6 ⟨rfl, hb6⟩
      have hB6 := H5.out.2.2.2.trans (hb6.mono H5.out.2.2.2.size)
      have HJ6 := Lib.hid (H5.out.2.2.1.below hb6)
      have HO6 := Lib.hid (show OwnLines w6 w.heap.size v5 _ from pw_own_below H5.out.1 hb6)
      have HA6 := Lib.hid H5.out.2.1
      have HB6 := Lib.hid hB6
      have hgw6 := hg.below hB6 h8
      clear hb6 hB6 H5 hgw
      go_wp2_with fail
      have hlsz : sizeL [lb (ln (k : Int))] = (ln (k : Int)).size + 8 := rfl
      have hll : j.lines.length ≤ 1000000 := by
        rw [HH.out.2.2.2.2.2.1, List.length_map]
        have := lstM_len ln (s % 60) k
        omega
      have htn : j.turn ≤ 2 * k := HH.out.2.2.2.2.2.2.1
      have hrm : st.room = 262144 := HH.out.2.2.2.2.2.2.2.1
      refine (note_glue w.heap.size b g row lv3 st j xs _ _ (ln (k : Int)) _ hgw6 h8 HB6.out.size HJ6.out HH.out.2.2.2.1 HH.out.2.2.2.2.1 (by omega) (by omega) (by omega) hll HOK.out (by rw [hrm, hlsz]; omega)).mono ?_
      intro e w7 hL
      obtain ⟨st7, j7, xs7, row7, lv7, rfl, hJ7, hH7, hM7, hr7, hc7, hl7, ht7, hb7, hF7, hR7, hV7⟩ := hL.calm HH.out.2.2.2.2.2.2.2.2.1 HJ6.out HB6.out.size
      have hB7 := HB6.out.trans hb7
      obtain ⟨hO7, hA7⟩ := held_call HO6.out HA6.out hF7 hR7 hV7
      have HB7 := Lib.hid hB7
      have HO7 := Lib.hid hO7
      have HA7 := Lib.hid hA7
      have HJ7 := Lib.hid hJ7
      have HH7 := Lib.hid hH7
      have HM7 := Lib.hid (hM7.mono (B' := k * 120 + 80) (c' := k * 6 + 3) (by rw [hlsz]; omega) (by omega))
      have HL7 := Lib.hid (show j7.lines = (lstM ln (s % 60) k ++ [ln (k : Int)]).map lb from by rw [hl7, HH.out.2.2.2.2.2.1, List.map_append]; rfl)
      have ht7b : j7.turn ≤ 2 * k + 1 := by omega
      have hr7b : st7.room = 262144 := by rw [hr7, hrm]
      clear hL hJ7 hH7 hM7 hl7 hB7 hO7 hA7 hb7 hF7 hR7 hV7 HJ6 HO6 HA6 HB6 hgw6 hll hlsz htn hrm HH ht7 hr7
      by_cases hks : (k : Int) = s % 60
      · have hks2 : ((k : Int) == s % 60) = true := by simpa using hks
        go_wp2_with fail
        have hA8 := (Below.refl w7.heap.size w7).alloc (Nat.le_refl _) (Obj.cells #[.string savedB] 9)
        have hA9 := (Below.refl (w7.alloc (.cells #[.string savedB] 9)).heap.size (w7.alloc (.cells #[.string savedB] 9))).alloc (Nat.le_refl _) (Obj.cells #[.string savedB] 9)
        have hA79 := hA8.trans (hA9.mono (by rw [World.size_alloc]; omega))
        have hO8 := own_one w7 w.heap.size savedB HB7.out.size
        have hO9 : OwnLines _ w.heap.size _ [savedB] := pw_own_below hO8 hA9
        have hJ9 := HJ7.out.below hA79
        have hB9 := HB7.out.trans (hA79.mono HB7.out.size)
        have hAp : Apt (.slice (some ⟨w7.heap.size, 0, none⟩) 1 1) b g row7 lv7 := apt_fresh HJ7.out (fun k hk => by cases hk; exact Nat.le_refl _)
        have hlt7 := HJ7.out.lt
        have hE : (w7.alloc (.cells #[.string savedB] 9)).heap.size = w7.heap.size + 1 := World.size_alloc ..
        have hLA := linesAt_one (w7.alloc (.cells #[.string savedB] 9)) savedB _ (Below.refl _ _)
        rw [hE] at hLA
        refine (save_glue w.heap.size b g row7 lv7 st7 j7 xs7 _ _ (some ⟨w7.heap.size + 1, 0, none⟩) 1 [savedB] _ (hg.below hB9 h8) h8 hB9.size hJ9 HH7.out HM7.out (by omega) (by omega) (by omega) hLA (by rintro a ha; cases ha; obtain ⟨q1, q2, q3⟩ := hlt7; exact ⟨by simp only [ne_eq]; omega, by simp only [ne_eq]; omega, fun e => by have := q3 _ e; simp only at this; omega⟩) (by decide) (by intro x hx; rw [List.mem_singleton.1 hx]; decide) (by rw [hr7b]; have : sizeL ([savedB].map lb) = 13 := rfl; omega)).mono ?_
        intro e w10 hL
        obtain ⟨st10, j10, xs10, row10, lv10, rfl, hJ10, hH10, hM10, hr10, hc10, hl10, ht10, hb10, hF10, hR10, hV10⟩ := hL.calm hc7 hJ9 hB9.size
        obtain ⟨hO10, hA10⟩ := held_call hO9 hAp hF10 hR10 hV10
        have HQ := Lib.hid (show OwnLines w10 w.heap.size (.slice (some ⟨w7.heap.size, 0, none⟩) 1 1) [savedB] ∧ Apt (.slice (some ⟨w7.heap.size, 0, none⟩) 1 1) b g row10 lv10 ∧ Jat w10 w.heap.size b g row10 lv10 st10 j10 ∧ Has st10 j10 xs10 ∧ Mes st10 ((k + 1) * 120) ((k + 1) * 6) ∧ j10.lines = [savedB].map lb ∧ j10.turn ≤ 2 * (k + 1 : Nat) ∧ st10.room = 262144 ∧ st10.crash = 0 ∧ Below w.heap.size w w10 from
          ⟨hO10, hA10, hJ10, hH10, hM10.mono (by have : sizeL ([savedB].map lb) = 13 := rfl; omega) (by omega), hl10, by omega, by rw [hr10, hr7b], hc10, hB9.trans hb10⟩)
        have hLS : lstM ln (s % 60) (k + 1) = [savedB] := by unfold lstM; rw [if_pos hks]
        have HLS := Lib.hid hLS
        clear hL hJ10 hH10 hM10 hl10 hO10 hA10 hb10 hF10 hR10 hV10 hJ9 hO9 hO8 hAp hLA hA8 hA9 hA79 hB9 hLS ht10 hr10 hc10 hlt7 hE HJ7 HH7 HM7 HL7 HB7 HO7 HA7
        go_wp2_with fail
        refine (num_any 0 _).mono ?_
        rintro e w' ⟨rfl, rfl⟩
        go_wp2
        go_roundw
        case rel => exact ⟨k + 1, row10, lv10, st10, j10, xs10, by omega, by go_num, by rw [HLS.out]; exact HQ⟩
        case measure => simp [intOf]; omega
      · have hks2 : ((k : Int) == s % 60) = false := by simpa using hks
        go_wp2_with fail
        refine (num_any 0 _).mono ?_
        rintro e w' ⟨rfl, rfl⟩
        go_wp2
        go_roundw
        case rel => exact ⟨k + 1, row7, lv7, st7, j7, xs7, by omega, by go_num, Lib.hid ⟨by unfold lstM; rw [if_neg hks]; exact HO7.out, HA7.out, HJ7.out, HH7.out, HM7.out.mono (by omega) (by omega), by unfold lstM; rw [if_neg hks]; exact HL7.out, by omega, hr7b, hc7, HB7.out⟩⟩
        case measure => simp [intOf]; omega
    · have hkn : (k : Int) = n % 60 := by omega
      have hk60 : k < 60 := by omega
      obtain ⟨hO, hA, hJ, hH, hM, hl, htn, hrm, hcr, hB⟩ := HH.out
      have hll : j.lines.length ≤ 61 := by
        rw [hl, List.length_map]
        have := lstM_len ln (s % 60) k
        omega
      have hgw := hg.below hB h8
      have hl2 : j.lines.map bs = lstM ln (s % 60) k := by rw [hl, map_bs_lb]
      have hlen : (lstM ln (s % 60) k).length < 1000000 := by have := lstM_len ln (s % 60) k; omega
      have HLEN := Lib.hid hlen
      have HL2 := Lib.hid hl2
      have HLL := Lib.hid hll
      have HHH := Lib.hid hH
      clear hlen hl2 HH hcr hrm htn hll hH
      have hJT := hJ.tape
      generalize lstM ln (s % 60) k = L at *
      go_wp2_with fail
      refine (open_glue w.heap.size g row st j xs _ _ _ hgw hB.size hJT HHH.out hM (by omega) (by omega)).mono ?_
      rintro e w3 ⟨lv4, rfl, hJ4, hb4, _⟩
      have hO4 : OwnLines w3 w.heap.size u8 L := pw_own_below hO hb4
      have hJ3 := hJ.below hb4
      have hB3 := hB.trans (hb4.mono hB.size)
      have HJ4 := Lib.hid hJ4
      clear hO hA hJ hJT hb4 hB hgw hJ4 hM
      generalize wr.heap.size = q at *
      go_wp2_with fail
      refine (lines_glue hJ3 (by have := HLL.out; omega)).mono ?_
      rintro e w5 ⟨v5, rfl, hO5, hb5⟩
      rw [HL2.out] at hO5
      have hO5a : OwnLines w5 w.heap.size u8 L := pw_own_below hO4 hb5
      have hJ5 := HJ4.out.below hb5
      have hB5 := hB3.trans (hb5.mono hB3.size)
      have HJ5 := Lib.hid hJ5
      clear hJ3 hB3 hb5 hO4 HJ4 hJ5
      go_wp2_with fail
      refine (texts_own hO5 hO5a HLEN.out).mono ?_
      rintro e w6 ⟨rfl, hd6⟩
      have hb6 := hd6.below
      have hO6 : OwnLines w6 w.heap.size u8 L := pw_own_below hO5a hb6
      have hJ6 := HJ5.out.below hb6
      have hB6 := hB5.trans (hb6.mono hB5.size)
      have HJ6 := Lib.hid hJ6
      rw [show decide (L = L) = true from by simp]
      clear hO5 hO5a hd6 hb6 hB5 HJ5 hJ6
      go_wp2_with fail
      refine (num_any 0 _).mono ?_
      rintro e w' ⟨rfl, rfl⟩
      go_wp2_with fail
      refine (lines_glue HJ6.out (by have := HLL.out; omega)).mono ?_
      rintro e w7 ⟨v7, rfl, hO7, hb7⟩
      rw [HL2.out] at hO7
      have hO7a : OwnLines w7 w.heap.size u8 L := pw_own_below hO6 hb7
      have hB7 := hB6.trans (hb7.mono hB6.size)
      clear hO6 hb7 hB6 HJ6
      go_wp2_with fail
      refine (texts_own hO7 hO7a HLEN.out).mono ?_
      rintro e w8 ⟨rfl, hd8⟩
      have hB8 := hB7.trans (hd8.below.mono hB7.size)
      rw [show decide (L = L) = true from by simp]
      clear hO7 hO7a hd8 hB7
      go_wp2_with fail
      refine (awake_any _ (hg.below hB8 h8)).mono ?_
      rintro e w9 ⟨rfl, hb9⟩
      have hB9 := hB8.trans (hb9.mono hB8.size)
      clear hb9 hB8
      go_wp2
      go_ret
      exact ⟨rfl, hB9⟩
end Go.Proofs.YtepcagakegbjfaaDoor
namespace Go.Proofs.YtepcagakegbjfaaDoor.journalMany
open Go.ChangeShapes Go.WideShapes Go.ChangeAt Go.RowKit
open Go.ChangeMaps (open_string shut_string)
set_option linter.unusedVariables false

theorem own : ownKnob Tryd.prog.godebug = none := by kernel_rfl

set_option maxRecDepth 100000 in
theorem lifted (os : Os) (started : os.Started) (H : Type) (enc : TypeId × Value → H) :
    ReturnsInHanded {} Tryd.checked os 6 .any (fun w args => (Rows.journalManySpec.pre enc Tryd.prog Tryd.f6 Rows.journalManyRow.domain false w args ∧ laidMetH Tryd.prog Rows.journalManyRow.laid w) ∧ sizedMet enc Tryd.prog Tryd.f6 (OpenSpec.ofChange Rows.journalManySpec) false w args)
      (Rows.journalManySpec.post enc Tryd.prog Tryd.f6 false true false false) := by
  refine handed_both (C := Tryd.checked) (X := fun w _ => laidMetH Tryd.prog Rows.journalManyRow.laid w) (fun _ _ _ hh h => h.of_heap hh) own started (by kernel_rfl) Tryd.func6
    (ChangeSpec.witness_shaped (enc := enc) (C := Tryd.checked) (os := os) (X := fun w _ => laidMetH Tryd.prog Rows.journalManyRow.laid w) false (World.laidAll Tryd.prog os Rows.journalManyRow.laid) #[.int .u8 0, .int .u8 0] 8 (World.laidAll_os _ _ _)
      (World.shaped_of_ZipB (by kernel_rfl) (by kernel_rfl)) (by kernel_rfl) (by kernel_rfl) (by kernel_rfl)
      (by rw [MakeChecks.laidMetH_plain _ _ _ (by kernel_rfl)]; exact laidMet_laidAll _ (by kernel_rfl) (by kernel_rfl))) ?_
  intro W base args ds gs before hval0 hW hS hL
  have hval : ∀ (j : Nat) t v, Tryd.f6.params[j]? = some t → args[j]? = some v → Value.okWide Tryd.prog W .any base t v := hval0
  have hW' := hW
  obtain ⟨p, q, hA0, hV, rfl, hfz, hnd⟩ := hW
  have hA : DataW.TrodAll enc Tryd.prog W 0 (fun _ => true) true Tryd.f6.params.toList args.toList ds p := hA0
  rw [Tryd.params6] at hA hval
  obtain ⟨v0, vs0, d0, ds0, p0, q0, hargs, rfl, rfl, h0, r0⟩ := trodAll_cons hA
  obtain ⟨v1, vs1, d1, ds1, p1, q1, rfl, rfl, rfl, h1, r1⟩ := trodAll_cons r0
  obtain ⟨rfl, rfl, rfl⟩ := trodAll_nil r1
  obtain rfl : args = #[v0, v1] := by cases args; simp_all
  obtain ⟨rfl, rfl⟩ := trodVars_none hV
  obtain ⟨a0, rfl, rfl, rfl, w0⟩ := open_int Tryd.underlying5 (hval 0 5 v0 rfl rfl) h0
  obtain ⟨a1, rfl, rfl, rfl, w1⟩ := open_int Tryd.underlying5 (hval 1 5 v1 rfl rfl) h1
  clear hA0 hval0
  refine (many_any lineI lineSpec a0 a1 (u8_of w0) (u8_of w1) W (gl_of hL hS)).mono fun e W' ⟨he, bel⟩ => ?_
  subst he
  exact ⟨_, rfl, _, _, _, [], _, [], hW', trodAll_mk1 (shut_bool Tryd.underlying4 _), (trodAll_cons_mk (shut_int Tryd.underlying5 w0) (trodAll_cons_mk (shut_int Tryd.underlying5 w1) trodAll_mk0)), rfl, bel.frame _, fun h => by cases h⟩

/-- The row's statement. -/
theorem row_holds : Rows.JournalManySaid :=
  OpenClaim.holds_of_wide 6 Tryd.f6 rfl rfl rfl rfl rfl rfl rfl ⟨rfl, rfl, rfl, rfl, rfl⟩ rfl rfl rfl rfl rfl (by kernel_rfl) Tryd.func6 (by kernel_rfl)
    (of_decide_eq_true (by kernel_rfl)) (by unfold Func.isWrapper; first | (rw [if_pos (by decide +kernel)]; kernel_rfl) | (rw [if_neg (by decide +kernel)]; exact ⟨rfl, rfl⟩))
    (fun os started H enc _ => lifted os started H enc)
/-- The statement: the tied card. -/
theorem proved : Rows.JournalManyCardSaid :=
  Claim7.holds_tied_plain_at .later [] [.data, .data, .data, .data, .sentinel, .sentinel, .pinned] true (true, "da1c6e6e57c94f45f9efa7391f33bfb80085fc88f3d189c72144fcdf8e4489a7") true
    row_holds (fun _ h => by cases h) (by kernel_rfl) (fun _ h => by cases h) journalMany_row_tie rfl ⟨rfl, rfl⟩ (by kernel_rfl) rfl
    (fun f fn hf hfn => by
      obtain rfl : f = 6 := Option.some.inj ((show Tryd.prog.funcNamed Rows.journalManyRow.func = some 6 by kernel_rfl).symm.trans hf) |>.symm
      obtain rfl : fn = Tryd.f6 := (Option.some.inj (Tryd.func6.symm.trans hfn)).symm
      exact ⟨by kernel_rfl, fun j t ht => by
        rw [Tryd.params6] at ht
        have hall : ∀ t ∈ [5, 5], Tryd.prog.wantsStandIn t = false := by
          intro t ht
          simp only [List.mem_cons, List.mem_nil_iff, or_false] at ht
          rcases ht with rfl | rfl <;> kernel_rfl
        refine hall t (List.mem_of_getElem? (l := [5, 5]) (i := j) ?_)
        simpa using ht⟩)
    (by kernel_rfl)
end Go.Proofs.YtepcagakegbjfaaDoor.journalMany
#print axioms Go.Proofs.YtepcagakegbjfaaDoor.journalMany.proved
