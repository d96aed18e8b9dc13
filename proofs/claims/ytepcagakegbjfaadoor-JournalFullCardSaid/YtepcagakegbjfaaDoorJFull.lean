/- Where a tape has no room for what is saved or noted nothing changes, and as long as all is at most half of the room there is some: for every room and every list of lists of numbers; package variables of Go as its own text lays them; no other condition. -/
import Derived.Test.YtepcagakegbjfaaDoorGh
import Derived.Test.YtepcagakegbjfaaDoorGg
import Derived.Test.YtepcagakegbjfaaDoorGf
import Derived.Test.YtepcagakegbjfaaDoorTie
import Derived.Test.YtepcagakegbjfaaDoorCards
import Derived.WalkKit
import Derived.ProofKit
import Derived.OpenShut
import Derived.ShutString
import Derived.ChangeOld
import Derived.Below
import Derived.LaidMore
import Derived.Lay
import Derived.SevenTiedAt
import Derived.Stop.Joined
/- JournalFull. -/
namespace Go.Proofs.YtepcagakegbjfaaDoor
open Go.RowKit Go.Proofs.YtepcagakegbjfaaDoorW.PrintWords
open Jr (bs lb bs_lb lb_bs bs_app okLine TapeSt addF sealF wipeF fallF newSt Has Mes Out Down Jn Sd sizeL Cl OutC)

/-- Between two rounds, whatever the room. -/
structure FuInv (w wr : World) (g b k : Nat) (row : Option Nat) (lv v : Value) (st : TapeSt) (j : Jn) (L : List ByteArray) (r : Int) : Prop where
  own : OwnLines wr w.heap.size v L
  apt : Apt v b g row lv
  jat : Jat wr w.heap.size b g row lv st j
  cl : Cl st j
  mes : Mes st (k * 4000) (k * 9)
  lines : j.lines = L.map lb
  len : L.length ≤ 12 + k
  size : sizeL j.lines ≤ 53 * (12 + k)
  turn : j.turn ≤ 2 * k
  room : st.room = r
  below : Below w.heap.size w wr
theorem FuInv.on {w wr wq : World} {g b k : Nat} {row : Option Nat} {lv v : Value} {st : TapeSt} {j : Jn} {L : List ByteArray} {r : Int} (h : FuInv w wr g b k row lv v st j L r) (hb : Below wr.heap.size wr wq) : FuInv w wq g b k row lv v st j L r :=
  ⟨pw_own_below h.own hb, h.apt, h.jat.below hb, h.cl, h.mes, h.lines, h.len, h.size, h.turn, h.room, h.below.trans (hb.mono h.below.size)⟩
theorem cl_new (r : Int) : Cl (newSt r 0 0 0) ⟨0, 0, [], false⟩ := ⟨Jr.has_new .., rfl, Int.le_refl _⟩
theorem save_cown (bas b tb : Nat) (row : Option Nat) (lv : Value) (st : TapeSt) (j : Jn) (B c : Nat) (v : Value) (bv : Nat) (ls : List ByteArray) (w : World) (hg : Gl w) (h8 : 8 ≤ bas) (hbs : bas ≤ w.heap.size)
    (hJ : Jat w bas b tb row lv st j) (hH : Cl st j) (hM : Mes st B c) (hB : B ≤ 500000) (hc : c < 50000) (hr : st.room ≤ 1000000) (ht : j.turn ≤ 500000)
    (ho : OwnLines w bv v ls) (ha : Apt v b tb row lv) (hln : ls.length ≤ 1000) (hok : ∀ s ∈ ls, okLine (lb s) = true) (hsz : sizeL (ls.map lb) ≤ 50000) (hlj : j.lines.length ≤ 1000) (hszj : sizeL j.lines ≤ 50000) :
    Calls Tryd.prog 15 #[.pointer (some ⟨b, 0, none⟩), v] w (LeftC w bas b tb row lv st j (ls.map lb) (sizeL (ls.map lb)) (B + 78 + 2 * sizeL (ls.map lb) + sizeL j.lines) (c + 9)) := by
  have hl := ho.lines
  have hlt := fun q e => own_lt ho q e
  obtain ⟨A, c2, rfl⟩ := own_slice ho
  exact save_cglue bas b tb row lv st j B c A c2 ls w hg h8 hbs hJ hH hM hB hc hr ht hl (fun a e => by
    subst e
    obtain ⟨h1, h2, h3, _⟩ := ha a.block rfl
    exact ⟨h1, h2, h3⟩) (fun a e => by subst e; exact hlt a.block rfl) hln hok hsz hlj hszj
set_option maxRecDepth 100000 in
set_option maxHeartbeats 40000000 in
theorem full_any (ln : Int → ByteArray) (hln : LineSpec ln) (x : Int) (hx : 0 ≤ x ∧ x < 65536) (xss : List (List Int)) (A : Option Addr) (c : Nat) (w : World) (hg : Gl w) (hr : RowsAt w (.slice A xss.length c) xss) :
    Calls Tryd.prog 7 #[.int .u16 x, .slice A xss.length c] w fun e w' => e = .returned (.bool true) ∧ Below w.heap.size w w' := by
  have h8 := hg.many
  have done : ∀ w1, Below w.heap.size w w1 → Calls Tryd.prog 10 #[] w1 fun e w' => e = .returned (.bool true) ∧ Below w.heap.size w w' := fun w1 hb => (awake_any _ (hg.below hb h8)).mono fun e w' ⟨h1, h2⟩ => ⟨h1, hb.trans (h2.mono hb.size)⟩
  have DONE := Lib.hid done
  have HRW := Lib.hid hr
  clear done hr
  by_cases h1 : 30 < xss.length
  · have h1b : decide ((30 : Int) < (xss.length : Int)) = true := decide_eq_true (by omega)
    go_enter Tryd.func7, Tryd.ntmps7
    go_wp2_with fail
    refine (DONE.out _ (Below.refl _ _)).mono ?_
    rintro e w1 ⟨rfl, hb1⟩
    go_wp2
    go_ret
    exact ⟨rfl, hb1⟩
  have h1b : decide ((30 : Int) < (xss.length : Int)) = false := decide_eq_false (by omega)
  have hr0 : 0 ≤ x % 3000 ∧ x % 3000 < 3000 := by omega
  go_enter Tryd.func7, Tryd.ntmps7
  go_wp2_with fail
  generalize x % 3000 = r at *
  refine (new_any r 0 0 0 _).mono ?_
  rintro e w1 ⟨g, rfl, hT0, hb1⟩
  obtain ⟨st0, hT, hC0, hM0, hrm0⟩ : ∃ st0, TapeAt w1 w.heap.size g none st0 ∧ Cl st0 ⟨0, 0, [], false⟩ ∧ Mes st0 0 0 ∧ st0.room = r := ⟨_, hT0, cl_new r, mes_new .., rfl⟩
  clear hT0 hx
  go_wp2_with fail
  refine (open_glue w.heap.size g none st0 ⟨0, 0, [], false⟩ [] 0 0 _ (hg.below hb1 h8) hb1.size hT hC0.has hM0 (by decide) (by decide)).mono ?_
  rintro e w2 ⟨lv2, rfl, hJ2, hb2, _⟩
  have hB2 := hb1.trans (hb2.mono hb1.size)
  have HJ2 := Lib.hid hJ2
  have HB2 := Lib.hid hB2
  have HM0 := Lib.hid hM0
  have HC0 := Lib.hid hC0
  clear hb1 hb2 hT hB2 hJ2 hM0 hC0
  generalize w1.heap.size = b at *
  go_wp2_with fail
  refine (num_any 0 _).mono ?_
  rintro e w' ⟨rfl, rfl⟩
  go_wp2
  go_loopw [9, 10] (fun v i wr => ∃ (k : Nat) (row : Option Nat) (lv : Value) (st : TapeSt) (j : Jn) (L : List ByteArray), k ≤ xss.length ∧ i = .int .i64 k ∧ Hid (FuInv w wr g b k row lv v st j L r)) (fun _ i _ => xss.length - (intOf i).toNat)
  case atStart => exact ⟨0, none, lv2, st0, _, [], by omega, rfl, Lib.hid ⟨own_none _ _, apt_nil _ _ _ _, HJ2.out, HC0.out, HM0.out.mono (by omega) (by omega), rfl, by simp, Nat.zero_le _, Int.le_refl _, hrm0, HB2.out⟩⟩
  case round =>
    obtain ⟨k, row, lv, st, j, L, hk, rfl, HH⟩ := hrel
    by_cases hlt : k < xss.length
    · obtain ⟨ad, u, eA, hcu, hBu⟩ : ∃ ad u, A = some ad ∧ w.cell? (ad.add k) = some u ∧ BytesAt w u xss[k] := by
        obtain ⟨A', c', e, h⟩ := HRW.out
        injection e with e1
        subst e1
        exact h k hlt
      subst eA
      obtain ⟨Ak, ck, rfl, hck, hCk, hUk⟩ := hBu
      have hblk : (ad.add k).block < w.heap.size := World.block_lt_of_cell? w _ hcu
      have HCU := Lib.hid (show ∀ w', Below w.heap.size w w' → w'.cell? (ad.add k) = some (.slice Ak xss[k].length ck) from fun w' hb => (hb.cell hblk).trans hcu)
      have HCK := Lib.hid hCk
      have HUK := Lib.hid hUk
      have HCC := Lib.hid hck
      clear hcu hCk hUk hck
      generalize xss[k] = ys at *
      have c0 := HCU.out _ HH.out.below
      by_cases hy12 : 12 < ys.length
      · have hyb : decide ((12 : Int) < (ys.length : Int)) = true := decide_eq_true (by omega)
        go_wp2_with fail
        refine (DONE.out _ HH.out.below).mono ?_
        rintro e w1 ⟨rfl, hb1⟩
        go_wp2
        go_ret
        exact ⟨rfl, hb1⟩
      have hyb : decide ((12 : Int) < (ys.length : Int)) = false := decide_eq_false (by omega)
      have hmes : k * 4000 ≤ 120000 ∧ k * 9 ≤ 270 := by omega
      go_wp2_with fail
      have hsl := sizeL_lines hln ys HUK.out
      refine (hln.lines ys Ak ck _ HUK.out (by omega) (Kd.C_below HCK.out HH.out.below) HCC.out).mono ?_
      rintro e w3 ⟨v3, rfl, hO3, hb3⟩
      have HH3 := Lib.hid (HH.out.on hb3)
      have hAp3 : Apt v3 b g row lv := apt_fresh HH.out.jat (own_bound hO3)
      have hO3w : OwnLines w3 w.heap.size v3 (ys.map ln) := own_weaken hO3 HH.out.below.size
      have c3 := HCU.out _ HH3.out.below
      clear hb3 hO3 c0 HH
      by_cases hev : ys.length % 2 = 0
      · have hevb : (((ys.length : Nat) : Int).tmod 2 == 0) = true := by rw [beq_iff_eq, Int.tmod_eq_emod_of_nonneg (Int.natCast_nonneg _)]; omega
        go_wp2_with fail
        have htn := HH3.out.turn
        have hrm := HH3.out.room
        have hjl : j.lines.length ≤ 900 := by have := HH3.out.len; rw [HH3.out.lines, List.length_map]; omega
        have hjs := HH3.out.size
        have hOLw := HH3.out.own
        have hALw := HH3.out.apt
        refine (save_cown w.heap.size b g row lv st j _ _ v3 _ (ys.map ln) _ (hg.below HH3.out.below h8) h8 HH3.out.below.size HH3.out.jat HH3.out.cl HH3.out.mes (by omega) (by omega) (by omega) (by omega) hO3w hAp3 (by rw [List.length_map]; omega) (lines_ok hln HUK.out) (by omega) (by omega) (by omega)).mono ?_
        intro e w9 hL
        obtain ⟨LN, hLN⟩ : ∃ LN, LN = ys.map ln := ⟨_, rfl⟩
        have hlL : LN.length ≤ 12 + (k + 1) := by rw [hLN, List.length_map]; omega
        rw [← hLN] at hL hO3w hsl
        have hsN : sizeL (LN.map lb) ≤ 53 * (12 + (k + 1)) := by omega
        have hbr : sizeL (LN.map lb) = sizeL (LN.map lb) := rfl
        have hBr := hO3w
        have hABr := hAp3
        obtain ⟨LB, hLB⟩ : ∃ LB, LB = LN := ⟨_, rfl⟩
        have hlB : LB.length ≤ 1000 := by rw [hLB]; omega
        rw [← hLB] at hBr
        obtain ⟨stN, jN, code, rowN, lvN, rfl, hJ4, hR4, hF4, hV4, hO4x, hM4⟩ := hL
        obtain ⟨hO4, hAp4⟩ := held_call hO3w hAp3 hF4 hR4 hV4
        obtain ⟨hOl, hApl⟩ := held_call hOLw hALw hF4 hR4 hV4
        obtain ⟨hOb, _⟩ := held_call hBr hABr hF4 hR4 hV4
        have hbN := Below.trans HH3.out.below (Jat.frame HH3.out.jat HH3.out.below.size hF4)
        have hlo := HH3.out.lines
        have hlen := HH3.out.len
        have hmN : Mes stN ((k + 1) * 4000) ((k + 1) * 9) := hM4.mono (by omega) (by omega)
        have hGN : v3 = v3 := rfl
        clear hR4 hF4 hV4 hO3w hAp3 hOLw hALw hBr hABr HH3 hM4
        cases hO4x with
        | ok h0 hcl hl4 ht4 hr4 =>
          subst h0
          have HI := Lib.hid (show FuInv w w9 g b (k + 1) rowN lvN v3 stN jN LN r from ⟨hO4, hAp4, hJ4, hcl, hmN, hl4, hlL, by rw [hl4]; exact hsN, by omega, by rw [hr4, hrm], hbN⟩)
          clear hO4 hAp4 hOl hApl hOb hJ4 hcl hmN hl4 ht4 hr4 hbN hlo hLN hLB
          go_wp2_with (go_at_call 13; refine (num_any _ _).mono ?_; rintro e w' ⟨rfl, rfl⟩)

          have HLB := Lib.hid (show jN.lines.map bs = LN from by rw [HI.out.lines, map_bs_lb])
          have hlnN : jN.lines.length ≤ 1000 := by have := HI.out.len; rw [HI.out.lines, List.length_map]; omega
          have hlenN : LN.length < 1000000 := by have := HI.out.len; omega
          refine (lines_glue HI.out.jat (by omega)).mono ?_
          rintro e w10 ⟨v10, rfl, hO10, hb10⟩
          rw [HLB.out] at hO10
          have HT10 := Lib.hid (texts_on hO10 (show OwnLines w10 w.heap.size v3 LN from pw_own_below HI.out.own hb10) hlenN true (decide_eq_true rfl))
          have HB10 := Lib.hid hb10
          clear hO10 hb10
          go_wp2_with fail
          refine (HT10.out _ (Below.refl _ _)).mono ?_
          rintro e w11 ⟨rfl, hb11⟩
          have hb11a := HB10.out.trans (hb11.mono HB10.out.size)
          have HI11 := Lib.hid (HI.out.on hb11a)
          clear hb11 hb11a HT10 HB10 HI
          go_wp2
          go_roundw
          case rel => exact ⟨k + 1, rowN, lvN, stN, jN, LN, by omega, by go_num, HI11⟩
          case measure => simp [intOf]; omega

        | full h0 hcl hl4 ht4 hr4 hf4 =>
          subst h0
          have hfb : decide (2 * (((sizeL (L.map lb) : Nat) : Int) + ((sizeL (LB.map lb) : Nat) : Int) + 200) ≤ r) = false := decide_eq_false (by rw [← hlo, ← hrm]; rw [hLB]; omega)
          have HFB := Lib.hid hfb
          have hszL : sizeL (L.map lb) ≤ 1000000 := by rw [← hlo]; omega
          have hszB : sizeL (LB.map lb) ≤ 1000000 := by rw [hLB]; omega
          have hS1 := sizes_any u9 L w9 hOl.lines (by omega) (by omega)
          have hS2 := sizes_any _ LB w9 hOb.lines (by omega) (by omega)
          have HS1 := Lib.hid hS1
          have HS2 := Lib.hid hS2
          have HI := Lib.hid (show FuInv w w9 g b (k + 1) rowN lvN u9 stN jN L r from ⟨hOl, hApl, hJ4, hcl, hmN, by rw [hl4, hlo], by omega, by rw [hl4]; omega, by omega, by rw [hr4, hrm], hbN⟩)
          clear hO4 hAp4 hOl hApl hOb hJ4 hcl hmN hl4 ht4 hr4 hbN hlo hLN hLB hf4 hfb hS1 hS2
          generalize sizeL (L.map lb) = z1 at *
          generalize sizeL (LB.map lb) = z2 at *
          have hfb := HFB.out
          go_wp2_with (first | (go_at_call 13; refine (num_any _ _).mono ?_; rintro e w' ⟨rfl, rfl⟩) | (go_at_call 20; with_reducible refine HS1.out.mono ?_; rintro e w' ⟨rfl, rfl⟩) | (go_at_call 20; with_reducible refine HS2.out.mono ?_; rintro e w' ⟨rfl, rfl⟩))

          have HLB := Lib.hid (show jN.lines.map bs = L from by rw [HI.out.lines, map_bs_lb])
          have hlnN : jN.lines.length ≤ 1000 := by have := HI.out.len; rw [HI.out.lines, List.length_map]; omega
          have hlenN : L.length < 1000000 := by have := HI.out.len; omega
          refine (lines_glue HI.out.jat (by omega)).mono ?_
          rintro e w10 ⟨v10, rfl, hO10, hb10⟩
          rw [HLB.out] at hO10
          have HT10 := Lib.hid (texts_on hO10 (show OwnLines w10 w.heap.size u9 L from pw_own_below HI.out.own hb10) hlenN true (decide_eq_true rfl))
          have HB10 := Lib.hid hb10
          clear hO10 hb10
          go_wp2_with fail
          refine (HT10.out _ (Below.refl _ _)).mono ?_
          rintro e w11 ⟨rfl, hb11⟩
          have hb11a := HB10.out.trans (hb11.mono HB10.out.size)
          have HI11 := Lib.hid (HI.out.on hb11a)
          clear hb11 hb11a HT10 HB10 HI
          go_wp2
          go_roundw
          case rel => exact ⟨k + 1, rowN, lvN, stN, jN, L, by omega, by go_num, HI11⟩
          case measure => simp [intOf]; omega
      · have hevb : (((ys.length : Nat) : Int).tmod 2 == 0) = false := by rw [beq_eq_false_iff_ne, Int.tmod_eq_emod_of_nonneg (Int.natCast_nonneg _)]; omega
        obtain ⟨i0, hi, hz0, hz1, hz2⟩ := info_parts info9
        have Hi := Lib.hid hi
        have Hz0 := Lib.hid hz0
        have Hz1 := Lib.hid hz1
        have Hz2 := Lib.hid hz2
        clear hi hz0 hz1 hz2
        have hpos : 0 < ys.length := by omega
        obtain ⟨y0, yr, hyc⟩ : ∃ y0 yr, ys = y0 :: yr := by
          cases ys with
          | nil => simp at hpos
          | cons y0 yr => exact ⟨y0, yr, rfl⟩
        have hu0 := HUK.out y0 (by rw [hyc]; exact List.mem_cons_self ..)
        obtain ⟨ak, eAk, hca⟩ : ∃ ak, Ak = some ak ∧ w.cell? ak = some (.int .u8 y0) := by
          obtain ⟨ak, e, h⟩ := Kd.at_int HCK.out 0 (by omega) (by omega)
          exact ⟨ak, e, by rw [hyc] at h; simpa [rd, Addr.add] using h⟩
        subst eAk
        clear hyc
        have hblk0 := World.block_lt_of_cell? w _ hca
        have HCA := Lib.hid (show ∀ w', Below w.heap.size w w' → w'.cell? ak = some (.int .u8 y0) from fun w' hb => (hb.cell hblk0).trans hca)
        have HS := Lib.hid (show ∀ w', Below w.heap.size w w' → (w'.cell? (ad.add k) = some (.slice (some ak) ys.length ck) ∧ w'.cell? ak = some (.int .u8 y0)) from fun w' hb => ⟨HCU.out w' hb, HCA.out w' hb⟩)
        have c3a := HCA.out _ HH3.out.below
        clear hca hO3w hAp3
        go_wp2_with fail
        refine (hln.line y0 _ hu0).mono ?_
        rintro e wb ⟨rfl, hbb⟩
        clear c3 c3a
        go_wp2_with fail
        have hbb2 := hbb.alloc hbb.size (.cells #[.string (ln y0)] 9)
        have HH4 := Lib.hid (HH3.out.on hbb2)
        have hBR0 : OwnLines (wb.alloc (.cells #[.string (ln y0)] 9)) w3.heap.size (.slice (some ⟨wb.heap.size, 0, none⟩) 1 1) [ln y0] := own_one wb w3.heap.size (ln y0) hbb.size
        have hABR : Apt (.slice (some ⟨wb.heap.size, 0, none⟩) 1 1) b g row lv := apt_fresh HH3.out.jat (own_bound hBR0)
        have hBR : OwnLines (wb.alloc (.cells #[.string (ln y0)] 9)) w.heap.size (.slice (some ⟨wb.heap.size, 0, none⟩) 1 1) [ln y0] := own_weaken hBR0 HH3.out.below.size
        generalize wb.alloc (.cells #[.string (ln y0)] 9) = wr at *
        generalize wb.heap.size = bb at *
        have HBR := Lib.hid hBR
        have HABR := Lib.hid hABR
        clear hbb hbb2 HH3 hBR0 hBR hABR
        have HH := HH4
        clear HH4
        have hd0 : Below w.heap.size w wr.drew := HH.out.below.trans ((Below.refl w.heap.size wr).drew)
        have hd1 : Below w.heap.size w (wr.drew.alloc (.cells #[] 9)) := hd0.alloc hd0.size _
        have hq1 : Below wr.heap.size wr (wr.drew.alloc (.cells #[] 9)) := ((Below.refl wr.heap.size wr).drew).alloc (Nat.le_refl _) _
        have hO1 : OwnLines (wr.drew.alloc (.cells #[] 9)) w.heap.size u9 L := (pw_own_below HH.out.own ((Below.refl wr.heap.size wr).drew.alloc (Nat.le_refl _) _))
        have HOE := Lib.hid (own_empty wr.drew wr.heap.size (Nat.le_refl _))
        obtain ⟨A8, c8, rfl⟩ := own_slice hO1
        cases A8 with
        | none =>
          obtain ⟨en, ec, eL⟩ := own_none_nil hO1
          subst ec eL
          have hq3 := hq1
          have hown3' := HOE.out
          go_region_held3 (fun w' => w'.cell? (ad.add k) = some (.slice (some ak) ys.length ck) ∧ w'.cell? ak = some (.int .u8 y0)) (first | exact HS.out _ hd0 | exact HS.out _ hd1 | exact HS.out _ hd4 | exact HS.out _ hd5 | exact HS.out _ hd6) (first | (go_at_call 16; refine (hln.line y0 _ hu0).mono ?_; rintro e w4 ⟨rfl, hb4⟩; have hq4 : Below wr.heap.size wr w4 := hq3.trans (hb4.mono hq3.size); have hq5 : Below wr.heap.size wr (w4.alloc (.cells #[.string (ln y0)] 9)) := hq4.alloc hq4.size _; have hd4 : Below w.heap.size w w4 := HH.out.below.trans (hq4.mono HH.out.below.size); have hd5 : Below w.heap.size w (w4.alloc (.cells #[.string (ln y0)] 9)) := HH.out.below.trans (hq5.mono HH.out.below.size); have hown5 : (w4.alloc (.cells #[.string (ln y0)] 9)).ownsRow wr.heap.size 9 1 (.slice (some ⟨wr.heap.size, 0, none⟩) 0 0) 0 [] := pw_own_below hown3' (hb4.trans ((Below.refl w4.heap.size w4).alloc (Nat.le_refl _) _ |>.mono hb4.size))) | (refine step_append_any _ rfl (.tmp 88) (.tmp 96) 34 rfl wr.heap.size 9 i0 (.string ⟨#[]⟩) 1 16 Tryd.underlying34 Hi.out Hz0.out Hz1.out Hz2.out rfl (by decide) _ _ _ rfl hown5 ⟨w4.heap.size, 0, none⟩ 1 1 [.string (ln y0)] rfl rfl (cell_one_new _ _ _) (by intro u hu; simp at hu; subst hu; rfl) (by unfold maxLen; omega) (by omega) hq5.size ?_; intro v6 w6 hown6 hgr6 hat6; have hq6 : Below wr.heap.size wr w6 := hq5.grown hgr6 hq5.size (fun k e => own_base hown5 k e); have hd6 : Below w.heap.size w w6 := HH.out.below.trans (hq6.mono HH.out.below.size)))
          have hO6 : OwnLines w6 wr.heap.size v6 (([] : List ByteArray) ++ [ln y0]) := by
            unfold OwnLines
            rw [List.length_append, List.map_append]
            simpa using hown6
          have HO6 := Lib.hid hO6
          have HQ6 := Lib.hid hq6
          have HC6 := Lib.hid (HS.out _ hd6)
          clear hown6 hown5 hd0 hd1 hO6 hO1 hq3 hown3'
          have hB6 := HH.out.below.trans (HQ6.out.mono HH.out.below.size)
          have k1 := HC6.out.1
          have k2 := HC6.out.2
          go_wp2_with fail
          refine (hln.line y0 _ hu0).mono ?_
          rintro e w7 ⟨rfl, hb7⟩
          have hQ7 := HQ6.out.trans (hb7.mono HQ6.out.size)
          have HH3 := Lib.hid (HH.out.on hQ7)
          have hO7 : OwnLines w7 wr.heap.size v6 (([] : List ByteArray) ++ [ln y0]) := pw_own_below HO6.out hb7
          have hAp3 : Apt v6 b g row lv := apt_fresh HH.out.jat (own_bound hO7)
          have hO3w : OwnLines w7 w.heap.size v6 (([] : List ByteArray) ++ [ln y0]) := own_weaken hO7 HH.out.below.size
          have hBr : OwnLines w7 w.heap.size (.slice (some ⟨bb, 0, none⟩) 1 1) [ln y0] := pw_own_below HBR.out hQ7
          have hABr := HABR.out
          have htn := HH3.out.turn
          have hrm := HH3.out.room
          have hoy := hln.ok y0 hu0
          have hsz : sizeL [lb (ln y0)] = (ln y0).size + 8 := rfl
          have hjl : j.lines.length ≤ 900 := by have := HH3.out.len; rw [HH3.out.lines, List.length_map]; omega
          have hjs := HH3.out.size
          have hOLw := HH3.out.own
          have hALw := HH3.out.apt
          clear hb7 k1 k2 HC6 HO6 HQ6 hB6 hO7 hQ7 HH HBR HABR
          go_wp2_with fail
          refine (note_cglue w.heap.size b g row lv st j _ _ (ln y0) _ (hg.below HH3.out.below h8) h8 HH3.out.below.size HH3.out.jat HH3.out.cl HH3.out.mes (by omega) (by omega) (by omega) (by omega) hoy.2 (by omega) (by omega)).mono ?_
          intro e w9 hL
          obtain ⟨LN, hLN⟩ : ∃ LN, LN = ([] : List ByteArray) ++ [ln y0] := ⟨_, rfl⟩
          have hlL : LN.length ≤ 12 + (k + 1) := by have := HH3.out.len; rw [hLN, List.length_append]; simp only [List.length_singleton, List.length_nil]; omega
          have hLb : j.lines ++ [lb (ln y0)] = LN.map lb := by rw [HH3.out.lines, hLN, List.map_append]; rfl
          have hsN : sizeL (LN.map lb) ≤ 53 * (12 + (k + 1)) := by rw [← hLb, Jr.sizeL_app, hsz]; omega
          rw [← hLN] at hO3w
          rw [hLb] at hL
          obtain ⟨LB, hLB⟩ : ∃ LB, LB = [ln y0] := ⟨_, rfl⟩
          have hlB : LB.length ≤ 1000 := by rw [hLB]; simp only [List.length_singleton]; omega
          have hsLB : sizeL (LB.map lb) ≤ 53 := by rw [hLB]; show sizeL [lb (ln y0)] ≤ 53; omega
          rw [show [lb (ln y0)] = LB.map lb from by rw [hLB]; rfl] at hL
          rw [← hLB] at hBr

          obtain ⟨stN, jN, code, rowN, lvN, rfl, hJ4, hR4, hF4, hV4, hO4x, hM4⟩ := hL
          obtain ⟨hO4, hAp4⟩ := held_call hO3w hAp3 hF4 hR4 hV4
          obtain ⟨hOl, hApl⟩ := held_call hOLw hALw hF4 hR4 hV4
          obtain ⟨hOb, _⟩ := held_call hBr hABr hF4 hR4 hV4
          have hbN := Below.trans HH3.out.below (Jat.frame HH3.out.jat HH3.out.below.size hF4)
          have hlo := HH3.out.lines
          have hlen := HH3.out.len
          have hmN : Mes stN ((k + 1) * 4000) ((k + 1) * 9) := hM4.mono (by omega) (by omega)
          have hGN : v6 = v6 := rfl
          clear hR4 hF4 hV4 hO3w hAp3 hOLw hALw hBr hABr HH3 hM4
          cases hO4x with
          | ok h0 hcl hl4 ht4 hr4 =>
            subst h0
            have HI := Lib.hid (show FuInv w w9 g b (k + 1) rowN lvN v6 stN jN LN r from ⟨hO4, hAp4, hJ4, hcl, hmN, hl4, hlL, by rw [hl4]; exact hsN, by omega, by rw [hr4, hrm], hbN⟩)
            clear hO4 hAp4 hOl hApl hOb hJ4 hcl hmN hl4 ht4 hr4 hbN hlo hLN hLB
            go_wp2_with (go_at_call 13; refine (num_any _ _).mono ?_; rintro e w' ⟨rfl, rfl⟩)

            have HLB := Lib.hid (show jN.lines.map bs = LN from by rw [HI.out.lines, map_bs_lb])
            have hlnN : jN.lines.length ≤ 1000 := by have := HI.out.len; rw [HI.out.lines, List.length_map]; omega
            have hlenN : LN.length < 1000000 := by have := HI.out.len; omega
            refine (lines_glue HI.out.jat (by omega)).mono ?_
            rintro e w10 ⟨v10, rfl, hO10, hb10⟩
            rw [HLB.out] at hO10
            have HT10 := Lib.hid (texts_on hO10 (show OwnLines w10 w.heap.size v6 LN from pw_own_below HI.out.own hb10) hlenN true (decide_eq_true rfl))
            have HB10 := Lib.hid hb10
            clear hO10 hb10
            go_wp2_with fail
            refine (HT10.out _ (Below.refl _ _)).mono ?_
            rintro e w11 ⟨rfl, hb11⟩
            have hb11a := HB10.out.trans (hb11.mono HB10.out.size)
            have HI11 := Lib.hid (HI.out.on hb11a)
            clear hb11 hb11a HT10 HB10 HI
            go_wp2
            go_roundw
            case rel => exact ⟨k + 1, rowN, lvN, stN, jN, LN, by omega, by go_num, HI11⟩
            case measure => simp [intOf]; omega

          | full h0 hcl hl4 ht4 hr4 hf4 =>
            subst h0
            have hfb : decide (2 * (((sizeL (([] : List ByteArray).map lb) : Nat) : Int) + ((sizeL (LB.map lb) : Nat) : Int) + 200) ≤ r) = false := decide_eq_false (by rw [← hlo, ← hrm]; omega)
            have HFB := Lib.hid hfb
            have hszL : sizeL (([] : List ByteArray).map lb) ≤ 1000000 := by rw [← hlo]; omega
            have hszB : sizeL (LB.map lb) ≤ 1000000 := by omega
            have hS1 := sizes_any (.slice none 0 0) ([] : List ByteArray) w9 hOl.lines (by omega) (by omega)
            have hS2 := sizes_any _ LB w9 hOb.lines (by omega) (by omega)
            have HS1 := Lib.hid hS1
            have HS2 := Lib.hid hS2
            have HI := Lib.hid (show FuInv w w9 g b (k + 1) rowN lvN (.slice none 0 0) stN jN ([] : List ByteArray) r from ⟨hOl, hApl, hJ4, hcl, hmN, by rw [hl4, hlo], by omega, by rw [hl4]; omega, by omega, by rw [hr4, hrm], hbN⟩)
            clear hO4 hAp4 hOl hApl hOb hJ4 hcl hmN hl4 ht4 hr4 hbN hlo hLN hLB hf4 hfb hS1 hS2
            generalize sizeL (([] : List ByteArray).map lb) = z1 at *
            generalize sizeL (LB.map lb) = z2 at *
            have hfb := HFB.out
            go_wp2_with (first | (go_at_call 13; refine (num_any _ _).mono ?_; rintro e w' ⟨rfl, rfl⟩) | (go_at_call 20; with_reducible refine HS1.out.mono ?_; rintro e w' ⟨rfl, rfl⟩) | (go_at_call 20; with_reducible refine HS2.out.mono ?_; rintro e w' ⟨rfl, rfl⟩))

            have HLB := Lib.hid (show jN.lines.map bs = ([] : List ByteArray) from by rw [HI.out.lines, map_bs_lb])
            have hlnN : jN.lines.length ≤ 1000 := by have := HI.out.len; rw [HI.out.lines, List.length_map]; omega
            have hlenN : ([] : List ByteArray).length < 1000000 := by have := HI.out.len; omega
            refine (lines_glue HI.out.jat (by omega)).mono ?_
            rintro e w10 ⟨v10, rfl, hO10, hb10⟩
            rw [HLB.out] at hO10
            have HT10 := Lib.hid (texts_on hO10 (show OwnLines w10 w.heap.size (.slice none 0 0) ([] : List ByteArray) from pw_own_below HI.out.own hb10) hlenN true (decide_eq_true rfl))
            have HB10 := Lib.hid hb10
            clear hO10 hb10
            go_wp2_with fail
            refine (HT10.out _ (Below.refl _ _)).mono ?_
            rintro e w11 ⟨rfl, hb11⟩
            have hb11a := HB10.out.trans (hb11.mono HB10.out.size)
            have HI11 := Lib.hid (HI.out.on hb11a)
            clear hb11 hb11a HT10 HB10 HI
            go_wp2
            go_roundw
            case rel => exact ⟨k + 1, rowN, lvN, stN, jN, ([] : List ByteArray), by omega, by go_num, HI11⟩
            case measure => simp [intOf]; omega
        | some a8 =>
          have HNW := Lib.hid (own_news hO1).2
          have hLl := HH.out.len
          go_region_held3 (fun w' => w'.cell? (ad.add k) = some (.slice (some ak) ys.length ck) ∧ w'.cell? ak = some (.int .u8 y0)) (first | exact HS.out _ hd0 | exact HS.out _ hd1 | exact HS.out _ hd3 | exact HS.out _ hd4 | exact HS.out _ hd5 | exact HS.out _ hd6) (first | (go_at_call 16; refine (hln.line y0 _ hu0).mono ?_; rintro e w4 ⟨rfl, hb4⟩; have hq4 : Below wr.heap.size wr w4 := hq3.trans (hb4.mono hq3.size); have hq5 : Below wr.heap.size wr (w4.alloc (.cells #[.string (ln y0)] 9)) := hq4.alloc hq4.size _; have hd4 : Below w.heap.size w w4 := HH.out.below.trans (hq4.mono HH.out.below.size); have hd5 : Below w.heap.size w (w4.alloc (.cells #[.string (ln y0)] 9)) := HH.out.below.trans (hq5.mono HH.out.below.size); have hown5 : (w4.alloc (.cells #[.string (ln y0)] 9)).ownsRow wr.heap.size 9 1 v3 L.length (L.map Value.string) := pw_own_below hown3' (hb4.trans ((Below.refl w4.heap.size w4).alloc (Nat.le_refl _) _ |>.mono hb4.size))) | (refine step_append_any _ rfl (.tmp 86) (.tmp 87) 34 rfl wr.heap.size 9 i0 (.string ⟨#[]⟩) 1 16 Tryd.underlying34 Hi.out Hz0.out Hz1.out Hz2.out rfl (by decide) _ _ _ rfl HOE.out a8 L.length c8 (L.map Value.string) rfl (by simp) HNW.out (by intro u hu; simp at hu; obtain ⟨y, _, rfl⟩ := hu; rfl) (by unfold maxLen; omega) (by omega) (by simp) ?_; intro v3 w3 hown3 hgr3 hat3; have hown3' : w3.ownsRow wr.heap.size 9 1 v3 L.length (L.map Value.string) := (by simpa using hown3); have hq3 : Below wr.heap.size wr w3 := hq1.grown (show World.grownBy _ w3 (some wr.heap.size) from hgr3) hq1.size (fun k e => by cases e; exact Nat.le_refl _); have hd3 : Below w.heap.size w w3 := HH.out.below.trans (hq3.mono HH.out.below.size)) | (refine step_append_any _ rfl (.tmp 88) (.tmp 96) 34 rfl wr.heap.size 9 i0 (.string ⟨#[]⟩) 1 16 Tryd.underlying34 Hi.out Hz0.out Hz1.out Hz2.out rfl (by decide) _ _ _ rfl hown5 ⟨w4.heap.size, 0, none⟩ 1 1 [.string (ln y0)] rfl rfl (cell_one_new _ _ _) (by intro u hu; simp at hu; subst hu; rfl) (by unfold maxLen; omega) (by omega) hq5.size ?_; intro v6 w6 hown6 hgr6 hat6; have hq6 : Below wr.heap.size wr w6 := hq5.grown hgr6 hq5.size (fun k e => own_base hown5 k e); have hd6 : Below w.heap.size w w6 := HH.out.below.trans (hq6.mono HH.out.below.size)))
          have hO6 : OwnLines w6 wr.heap.size v6 (L ++ [ln y0]) := by
            unfold OwnLines
            rw [List.length_append, List.map_append]
            simpa using hown6
          have HO6 := Lib.hid hO6
          have HQ6 := Lib.hid hq6
          have HC6 := Lib.hid (HS.out _ hd6)
          clear hown6 hown5 hd0 hd1 hO6 hO1 hown3 hown3' hgr3 hat3 hq3 hd3
          have hB6 := HH.out.below.trans (HQ6.out.mono HH.out.below.size)
          have k1 := HC6.out.1
          have k2 := HC6.out.2
          go_wp2_with fail
          refine (hln.line y0 _ hu0).mono ?_
          rintro e w7 ⟨rfl, hb7⟩
          have hQ7 := HQ6.out.trans (hb7.mono HQ6.out.size)
          have HH3 := Lib.hid (HH.out.on hQ7)
          have hO7 : OwnLines w7 wr.heap.size v6 (L ++ [ln y0]) := pw_own_below HO6.out hb7
          have hAp3 : Apt v6 b g row lv := apt_fresh HH.out.jat (own_bound hO7)
          have hO3w : OwnLines w7 w.heap.size v6 (L ++ [ln y0]) := own_weaken hO7 HH.out.below.size
          have hBr : OwnLines w7 w.heap.size (.slice (some ⟨bb, 0, none⟩) 1 1) [ln y0] := pw_own_below HBR.out hQ7
          have hABr := HABR.out
          have htn := HH3.out.turn
          have hrm := HH3.out.room
          have hoy := hln.ok y0 hu0
          have hsz : sizeL [lb (ln y0)] = (ln y0).size + 8 := rfl
          have hjl : j.lines.length ≤ 900 := by have := HH3.out.len; rw [HH3.out.lines, List.length_map]; omega
          have hjs := HH3.out.size
          have hOLw := HH3.out.own
          have hALw := HH3.out.apt
          clear hb7 k1 k2 HC6 HO6 HQ6 hB6 hO7 hQ7 HH HBR HABR
          go_wp2_with fail
          refine (note_cglue w.heap.size b g row lv st j _ _ (ln y0) _ (hg.below HH3.out.below h8) h8 HH3.out.below.size HH3.out.jat HH3.out.cl HH3.out.mes (by omega) (by omega) (by omega) (by omega) hoy.2 (by omega) (by omega)).mono ?_
          intro e w9 hL
          obtain ⟨LN, hLN⟩ : ∃ LN, LN = L ++ [ln y0] := ⟨_, rfl⟩
          have hlL : LN.length ≤ 12 + (k + 1) := by have := HH3.out.len; rw [hLN, List.length_append]; simp only [List.length_singleton]; omega
          have hLb : j.lines ++ [lb (ln y0)] = LN.map lb := by rw [HH3.out.lines, hLN, List.map_append]; rfl
          have hsN : sizeL (LN.map lb) ≤ 53 * (12 + (k + 1)) := by rw [← hLb, Jr.sizeL_app, hsz]; omega
          rw [← hLN] at hO3w
          rw [hLb] at hL
          obtain ⟨LB, hLB⟩ : ∃ LB, LB = [ln y0] := ⟨_, rfl⟩
          have hlB : LB.length ≤ 1000 := by rw [hLB]; simp only [List.length_singleton]; omega
          have hsLB : sizeL (LB.map lb) ≤ 53 := by rw [hLB]; show sizeL [lb (ln y0)] ≤ 53; omega
          rw [show [lb (ln y0)] = LB.map lb from by rw [hLB]; rfl] at hL
          rw [← hLB] at hBr

          obtain ⟨stN, jN, code, rowN, lvN, rfl, hJ4, hR4, hF4, hV4, hO4x, hM4⟩ := hL
          obtain ⟨hO4, hAp4⟩ := held_call hO3w hAp3 hF4 hR4 hV4
          obtain ⟨hOl, hApl⟩ := held_call hOLw hALw hF4 hR4 hV4
          obtain ⟨hOb, _⟩ := held_call hBr hABr hF4 hR4 hV4
          have hbN := Below.trans HH3.out.below (Jat.frame HH3.out.jat HH3.out.below.size hF4)
          have hlo := HH3.out.lines
          have hlen := HH3.out.len
          have hmN : Mes stN ((k + 1) * 4000) ((k + 1) * 9) := hM4.mono (by omega) (by omega)
          have hGN : v6 = v6 := rfl
          clear hR4 hF4 hV4 hO3w hAp3 hOLw hALw hBr hABr HH3 hM4
          cases hO4x with
          | ok h0 hcl hl4 ht4 hr4 =>
            subst h0
            have HI := Lib.hid (show FuInv w w9 g b (k + 1) rowN lvN v6 stN jN LN r from ⟨hO4, hAp4, hJ4, hcl, hmN, hl4, hlL, by rw [hl4]; exact hsN, by omega, by rw [hr4, hrm], hbN⟩)
            clear hO4 hAp4 hOl hApl hOb hJ4 hcl hmN hl4 ht4 hr4 hbN hlo hLN hLB
            go_wp2_with (go_at_call 13; refine (num_any _ _).mono ?_; rintro e w' ⟨rfl, rfl⟩)

            have HLB := Lib.hid (show jN.lines.map bs = LN from by rw [HI.out.lines, map_bs_lb])
            have hlnN : jN.lines.length ≤ 1000 := by have := HI.out.len; rw [HI.out.lines, List.length_map]; omega
            have hlenN : LN.length < 1000000 := by have := HI.out.len; omega
            refine (lines_glue HI.out.jat (by omega)).mono ?_
            rintro e w10 ⟨v10, rfl, hO10, hb10⟩
            rw [HLB.out] at hO10
            have HT10 := Lib.hid (texts_on hO10 (show OwnLines w10 w.heap.size v6 LN from pw_own_below HI.out.own hb10) hlenN true (decide_eq_true rfl))
            have HB10 := Lib.hid hb10
            clear hO10 hb10
            go_wp2_with fail
            refine (HT10.out _ (Below.refl _ _)).mono ?_
            rintro e w11 ⟨rfl, hb11⟩
            have hb11a := HB10.out.trans (hb11.mono HB10.out.size)
            have HI11 := Lib.hid (HI.out.on hb11a)
            clear hb11 hb11a HT10 HB10 HI
            go_wp2
            go_roundw
            case rel => exact ⟨k + 1, rowN, lvN, stN, jN, LN, by omega, by go_num, HI11⟩
            case measure => simp [intOf]; omega

          | full h0 hcl hl4 ht4 hr4 hf4 =>
            subst h0
            have hfb : decide (2 * (((sizeL (L.map lb) : Nat) : Int) + ((sizeL (LB.map lb) : Nat) : Int) + 200) ≤ r) = false := decide_eq_false (by rw [← hlo, ← hrm]; omega)
            have HFB := Lib.hid hfb
            have hszL : sizeL (L.map lb) ≤ 1000000 := by rw [← hlo]; omega
            have hszB : sizeL (LB.map lb) ≤ 1000000 := by omega
            have hS1 := sizes_any (.slice (some a8) L.length c8) L w9 hOl.lines (by omega) (by omega)
            have hS2 := sizes_any _ LB w9 hOb.lines (by omega) (by omega)
            have HS1 := Lib.hid hS1
            have HS2 := Lib.hid hS2
            have HI := Lib.hid (show FuInv w w9 g b (k + 1) rowN lvN (.slice (some a8) L.length c8) stN jN L r from ⟨hOl, hApl, hJ4, hcl, hmN, by rw [hl4, hlo], by omega, by rw [hl4]; omega, by omega, by rw [hr4, hrm], hbN⟩)
            clear hO4 hAp4 hOl hApl hOb hJ4 hcl hmN hl4 ht4 hr4 hbN hlo hLN hLB hf4 hfb hS1 hS2
            generalize sizeL (L.map lb) = z1 at *
            generalize sizeL (LB.map lb) = z2 at *
            have hfb := HFB.out
            go_wp2_with (first | (go_at_call 13; refine (num_any _ _).mono ?_; rintro e w' ⟨rfl, rfl⟩) | (go_at_call 20; with_reducible refine HS1.out.mono ?_; rintro e w' ⟨rfl, rfl⟩) | (go_at_call 20; with_reducible refine HS2.out.mono ?_; rintro e w' ⟨rfl, rfl⟩))

            have HLB := Lib.hid (show jN.lines.map bs = L from by rw [HI.out.lines, map_bs_lb])
            have hlnN : jN.lines.length ≤ 1000 := by have := HI.out.len; rw [HI.out.lines, List.length_map]; omega
            have hlenN : L.length < 1000000 := by have := HI.out.len; omega
            refine (lines_glue HI.out.jat (by omega)).mono ?_
            rintro e w10 ⟨v10, rfl, hO10, hb10⟩
            rw [HLB.out] at hO10
            have HT10 := Lib.hid (texts_on hO10 (show OwnLines w10 w.heap.size (.slice (some a8) L.length c8) L from pw_own_below HI.out.own hb10) hlenN true (decide_eq_true rfl))
            have HB10 := Lib.hid hb10
            clear hO10 hb10
            go_wp2_with fail
            refine (HT10.out _ (Below.refl _ _)).mono ?_
            rintro e w11 ⟨rfl, hb11⟩
            have hb11a := HB10.out.trans (hb11.mono HB10.out.size)
            have HI11 := Lib.hid (HI.out.on hb11a)
            clear hb11 hb11a HT10 HB10 HI
            go_wp2
            go_roundw
            case rel => exact ⟨k + 1, rowN, lvN, stN, jN, L, by omega, by go_num, HI11⟩
            case measure => simp [intOf]; omega
    · obtain rfl : k = xss.length := by omega
      go_wp2_with fail
      have hmes : xss.length * 4000 ≤ 120000 ∧ xss.length * 9 ≤ 270 := by omega
      have htn := HH.out.turn
      have hln2 := HH.out.len
      refine (fall_glue w.heap.size g row st _ _ r 0 0 0 _ HH.out.jat.tape HH.out.mes (by omega) (by omega)).mono ?_
      rintro e w6 ⟨rfl, row6, hT6, _, hF6, hM6⟩
      have hO6 : OwnLines w6 w.heap.size u9 L := own_move2 HH.out.own fun q e => hF6.block q (own_lt HH.out.own q e) (HH.out.apt q e).2.1 (fun e2 => (HH.out.apt q e).2.2.1 e2.symm)
      have hB6 := HH.out.below.trans (fr_below HH.out.jat.tape HH.out.below.size hF6)
      have hH6 := HH.out.cl.has.fall r 0 0 0
      have hl6 := HH.out.lines
      generalize fallF st r 0 0 0 = st6 at *
      clear hF6 HH
      go_wp2_with fail
      refine (open_glue w.heap.size g row6 st6 j _ _ _ _ (hg.below hB6 h8) hB6.size hT6 hH6 hM6 (by omega) (by omega)).mono ?_
      rintro e w7 ⟨lv7, rfl, hJ7, hb7, _⟩
      have hO7 : OwnLines w7 w.heap.size u9 L := pw_own_below hO6 hb7
      have hB7 := hB6.trans (hb7.mono hB6.size)
      generalize w6.heap.size = b7 at *
      clear hT6 hO6 hB6 hb7 hM6 hH6
      have hl5b : j.lines.map bs = L := by rw [hl6, map_bs_lb]
      go_wp2_with (go_at_call 13; refine (num_any _ _).mono ?_; rintro e w' ⟨rfl, rfl⟩)
      refine (lines_glue hJ7 (by rw [hl6, List.length_map]; omega)).mono ?_
      rintro e w8 ⟨v8, rfl, hO8, hb8⟩
      rw [hl5b] at hO8
      have HT8 := Lib.hid (texts_on hO8 (show OwnLines w8 w.heap.size u9 L from pw_own_below hO7 hb8) (by omega) true (decide_eq_true rfl))
      have HB8 := Lib.hid (hB7.trans (hb8.mono hB7.size))
      clear hO8 hO7 hb8 hB7 hJ7
      go_wp2_with fail
      refine (HT8.out _ (Below.refl _ _)).mono ?_
      rintro e w9 ⟨rfl, hb9⟩
      have hB9 := HB8.out.trans (hb9.mono HB8.out.size)
      clear hb9 HT8 HB8
      go_wp2_with fail
      refine (DONE.out _ hB9).mono ?_
      rintro e wz ⟨rfl, hbz⟩
      go_wp2
      go_ret
      exact ⟨rfl, hbz⟩
end Go.Proofs.YtepcagakegbjfaaDoor
namespace Go.Proofs.YtepcagakegbjfaaDoor.journalFull
open Go.ChangeShapes Go.WideShapes Go.ChangeAt Go.RowKit
open Go.ChangeMaps (open_string shut_string)
set_option linter.unusedVariables false

theorem own : ownKnob Tryd.prog.godebug = none := by kernel_rfl
theorem u16_of {x : Int} (h : (Lit.int .u16 x).wf = true) : 0 ≤ x ∧ x < 65536 := by
  have h2 : IntKind.u16.min ≤ x ∧ x ≤ IntKind.u16.max := by simpa [Lit.wf] using h
  have e1 : IntKind.u16.min = 0 := rfl
  have e2 : IntKind.u16.max = 65535 := rfl
  rw [e1, e2] at h2
  exact ⟨h2.1, by omega⟩

set_option maxRecDepth 100000 in
theorem lifted (os : Os) (started : os.Started) (H : Type) (enc : TypeId × Value → H) :
    ReturnsInHanded {} Tryd.checked os 7 .any (fun w args => (Rows.journalFullSpec.pre enc Tryd.prog Tryd.f7 Rows.journalFullRow.domain false w args ∧ laidMetH Tryd.prog Rows.journalFullRow.laid w) ∧ sizedMet enc Tryd.prog Tryd.f7 (OpenSpec.ofChange Rows.journalFullSpec) false w args)
      (Rows.journalFullSpec.post enc Tryd.prog Tryd.f7 false true false false) := by
  refine handed_both (C := Tryd.checked) (X := fun w _ => laidMetH Tryd.prog Rows.journalFullRow.laid w) (fun _ _ _ hh h => h.of_heap hh) own started (by kernel_rfl) Tryd.func7
    (ChangeSpec.witness_shaped (enc := enc) (C := Tryd.checked) (os := os) (X := fun w _ => laidMetH Tryd.prog Rows.journalFullRow.laid w) false (World.laidAll Tryd.prog os Rows.journalFullRow.laid) #[.int .u16 0, .slice none 0 0] 8 (World.laidAll_os _ _ _)
      (World.shaped_of_ZipB (by kernel_rfl) (by kernel_rfl)) (by kernel_rfl) (by kernel_rfl) (by kernel_rfl)
      (by rw [MakeChecks.laidMetH_plain _ _ _ (by kernel_rfl)]; exact laidMet_laidAll _ (by kernel_rfl) (by kernel_rfl))) ?_
  intro W base args ds gs before hval0 hW hS hL
  have hval : ∀ (j : Nat) t v, Tryd.f7.params[j]? = some t → args[j]? = some v → Value.okWide Tryd.prog W .any base t v := hval0
  have hW' := hW
  obtain ⟨p, q, hA0, hV, rfl, hfz, hnd⟩ := hW
  have hA : DataW.TrodAll enc Tryd.prog W 0 (fun _ => true) true Tryd.f7.params.toList args.toList ds p := hA0
  rw [Tryd.params7] at hA hval
  obtain ⟨v0, vs0, d0, ds0, p0, q0, hargs, rfl, rfl, h0, r0⟩ := trodAll_cons hA
  obtain ⟨v1, vs1, d1, ds1, p1, q1, rfl, rfl, rfl, h1, r1⟩ := trodAll_cons r0
  obtain ⟨rfl, rfl, rfl⟩ := trodAll_nil r1
  obtain rfl : args = #[v0, v1] := by cases args; simp_all
  obtain ⟨rfl, rfl⟩ := trodVars_none hV
  obtain ⟨a0, rfl, rfl, rfl, w0⟩ := open_int Tryd.underlying46 (hval 0 46 v0 rfl rfl) h0
  have k1 := h1
  have lt1 : ∀ x ∈ p1, x.block < W.heap.size := by obtain ⟨m, hm⟩ := k1; exact DataW.trod_lt m _ _ _ hm
  obtain ⟨xss, R0⟩ := rows_open (okWide_slice Tryd.underlying22 (hval 1 22 v1 rfl rfl)) h1
  obtain ⟨A, c, rfl, _⟩ := id R0
  clear hA0 hval0
  refine (full_any lineI lineSpec a0 (u16_of w0) xss A c W (gl_of hL hS) R0).mono fun e W' ⟨he, bel⟩ => ?_
  subst he
  exact ⟨_, rfl, _, _, _, [], _, [], hW', trodAll_mk1 (shut_bool Tryd.underlying4 _), (trodAll_cons_mk (shut_int Tryd.underlying46 w0) (trodAll_cons_mk (Below.trod laidOut (by kernel_rfl) (of_decide_eq_true (by kernel_rfl)) k1 bel lt1) trodAll_mk0)), rfl, bel.frame _, fun h => by cases h⟩

/-- The row's statement. -/
theorem row_holds : Rows.JournalFullSaid :=
  OpenClaim.holds_of_wide 7 Tryd.f7 rfl rfl rfl rfl rfl rfl rfl ⟨rfl, rfl, rfl, rfl, rfl⟩ rfl rfl rfl rfl rfl (by kernel_rfl) Tryd.func7 (by kernel_rfl)
    (of_decide_eq_true (by kernel_rfl)) (by unfold Func.isWrapper; first | (rw [if_pos (by decide +kernel)]; kernel_rfl) | (rw [if_neg (by decide +kernel)]; exact ⟨rfl, rfl⟩))
    (fun os started H enc _ => lifted os started H enc)
/-- The statement: the tied card. -/
theorem proved : Rows.JournalFullCardSaid :=
  Claim7.holds_tied_plain_at .later [] [.data, .data, .data, .data, .sentinel, .sentinel, .pinned] true (true, "da1c6e6e57c94f45f9efa7391f33bfb80085fc88f3d189c72144fcdf8e4489a7") true
    row_holds (fun _ h => by cases h) (by kernel_rfl) (fun _ h => by cases h) journalFull_row_tie rfl ⟨rfl, rfl⟩ (by kernel_rfl) rfl
    (fun f fn hf hfn => by
      obtain rfl : f = 7 := Option.some.inj ((show Tryd.prog.funcNamed Rows.journalFullRow.func = some 7 by kernel_rfl).symm.trans hf) |>.symm
      obtain rfl : fn = Tryd.f7 := (Option.some.inj (Tryd.func7.symm.trans hfn)).symm
      exact ⟨by kernel_rfl, fun j t ht => by
        rw [Tryd.params7] at ht
        have hall : ∀ t ∈ [46, 22], Tryd.prog.wantsStandIn t = false := by
          intro t ht
          simp only [List.mem_cons, List.mem_nil_iff, or_false] at ht
          rcases ht with rfl | rfl <;> kernel_rfl
        refine hall t (List.mem_of_getElem? (l := [46, 22]) (i := j) ?_)
        simpa using ht⟩)
    (by kernel_rfl)
end Go.Proofs.YtepcagakegbjfaaDoor.journalFull
#print axioms Go.Proofs.YtepcagakegbjfaaDoor.journalFull.proved
