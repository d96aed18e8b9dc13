/- Wherever the tape of a journal falls, and whatever it keeps, what is opened is what was ahead of the call in which it fell, or behind it, whole; what was told as done is there; then it goes on: for every list of lists of numbers, falls and keeping; package variables of Go as its own text lays them; no other condition. -/
import Derived.Test.YtepcagakegbjfaaDoorGg
import Derived.Test.YtepcagakegbjfaaDoorGf
import Derived.Test.YtepcagakegbjfaaDoorTie
import Derived.Test.YtepcagakegbjfaaDoorCards
import Derived.WalkKit
import Derived.ProofKit
import Derived.OpenShut
import Derived.ShutString
import Derived.ChangeOld
import Derived.Below
import Derived.LaidMore
import Derived.Lay
import Derived.SevenTiedAt
import Derived.Stop.Joined
/- JournalFalls. -/
namespace Go.Proofs.YtepcagakegbjfaaDoor
open Go.RowKit Go.Proofs.YtepcagakegbjfaaDoorW.PrintWords
open Jr (bs lb bs_lb lb_bs bs_app okLine TapeSt addF sealF wipeF fallF newSt Has Mes Out Down Jn Sd sizeL)

abbrev moreB : ByteArray := ⟨#[109, 111, 114, 101]⟩
/-- Behind a fall one of two lists is there. -/
def PF (st : TapeSt) (L M : List ByteArray) : Prop := ∀ room crash keep torn, ∃ j xs, Has (fallF st room crash keep torn) j xs ∧ (j.lines = L.map lb ∨ j.lines = M.map lb) ∧ j.turn ≤ 40
/-- A journal that is up, between two rounds. -/
structure FAl (w wr : World) (g b k : Nat) (row : Option Nat) (lv v m : Value) (st : TapeSt) (j : Jn) (xs : List Jr.S) (L M : List ByteArray) : Prop where
  own : OwnLines wr w.heap.size v L
  apt : Apt v b g row lv
  ownM : OwnLines wr w.heap.size m M
  aptM : Apt m b g row lv
  jat : Jat wr w.heap.size b g row lv st j
  has : Has st j xs
  mes : Mes st (k * 700) (k * 3)
  lines : j.lines = L.map lb
  len : L.length ≤ 12 + k
  lenM : M.length ≤ 12 + k
  turn : j.turn ≤ k
  room : st.room = 262144
  below : Below w.heap.size w wr
/-- Up or down. -/
structure FBs (w wr : World) (g : Nat) (row : Option Nat) (v m : Value) (st : TapeSt) (L M : List ByteArray) : Prop where
  tape : TapeAt wr w.heap.size g row st
  own : OwnLines wr w.heap.size v L
  ownM : OwnLines wr w.heap.size m M
  far : ∀ q, v.ownBlock = some q → q ≠ g ∧ row ≠ some q
  farM : ∀ q, m.ownBlock = some q → q ≠ g ∧ row ≠ some q
  pf : PF st L M
  mes : Mes st 9000 50
  len : L.length ≤ 30
  lenM : M.length ≤ 30
  below : Below w.heap.size w wr
theorem FAl.bs {w wr : World} {g b k : Nat} {row : Option Nat} {lv v m : Value} {st : TapeSt} {j : Jn} {xs : List Jr.S} {L M : List ByteArray} (h : FAl w wr g b k row lv v m st j xs L M) (hk : k ≤ 12) : FBs w wr g row v m st L M :=
  ⟨h.jat.tape, h.own, h.ownM, fun q e => ⟨(h.apt q e).2.1, (h.apt q e).2.2.1⟩, fun q e => ⟨(h.aptM q e).2.1, (h.aptM q e).2.2.1⟩,
   fun a b c d => ⟨j, xs, h.has.fall a b c d, .inl h.lines, by have := h.turn; omega⟩, h.mes.mono (by omega) (by omega), by have := h.len; omega, by have := h.lenM; omega, h.below⟩
theorem FBs.fell {w wr wq : World} {g : Nat} {row row' : Option Nat} {v m : Value} {st : TapeSt} {L M : List ByteArray} (h : FBs w wr g row v m st L M) (a b c d : Int) (hT : TapeAt wq w.heap.size g row' (fallF st a b c d)) (hR : RowOk wr row row') (hF : Fr wr wq g row) : FBs w wq g row' v m (fallF st a b c d) L M := by
  have hrow : ∀ q, q < wr.heap.size → row ≠ some q → row' ≠ some q := fun q hq hn e => by
    rcases hR q e with x | x
    · exact hn x
    · omega
  refine ⟨hT, own_move2 h.own fun q e => hF.block q (own_lt h.own q e) (h.far q e).1 (fun e2 => (h.far q e).2 e2.symm), own_move2 h.ownM fun q e => hF.block q (own_lt h.ownM q e) (h.farM q e).1 (fun e2 => (h.farM q e).2 e2.symm),
    fun q e => ⟨(h.far q e).1, hrow q (own_lt h.own q e) (h.far q e).2⟩, fun q e => ⟨(h.farM q e).1, hrow q (own_lt h.ownM q e) (h.farM q e).2⟩, ?_, (h.mes.fall a b c d).mono (Nat.le_refl _) (by omega), h.len, h.lenM, h.below.trans (fr_below h.tape h.below.size hF)⟩
  intro a' b' c' d'
  obtain ⟨j, xs, h1, h2, h3⟩ := h.pf a b c d
  exact ⟨j, xs, h1.fall a' b' c' d', h2, h3⟩
theorem FBs.on {w wr wq : World} {g : Nat} {row : Option Nat} {v m : Value} {st : TapeSt} {L M : List ByteArray} (h : FBs w wr g row v m st L M) (hb : Below wr.heap.size wr wq) : FBs w wq g row v m st L M :=
  ⟨h.tape.below hb, pw_own_below h.own hb, pw_own_below h.ownM hb, h.far, h.farM, h.pf, h.mes, h.len, h.lenM, h.below.trans (hb.mono h.below.size)⟩
set_option maxRecDepth 100000 in
set_option maxHeartbeats 40000000 in
theorem falls_any (ln : Int → ByteArray) (hln : LineSpec ln) (xss : List (List Int)) (fs : List Int) (A B : Option Addr) (c d : Nat) (a keep torn : Int) (w : World) (hg : Gl w) (hr : RowsAt w (.slice A xss.length c) xss) (hC : Kd.C (Kd.int .u8) w B fs.length fs) :
    Calls Tryd.prog 8 #[.slice A xss.length c, .int .u8 a, .slice B fs.length d, .int .i64 keep, .int .i64 torn] w fun e w' => e = .returned (.bool true) ∧ Below w.heap.size w w' := by
  have h8 := hg.many
  have done : ∀ w1, Below w.heap.size w w1 → Calls Tryd.prog 10 #[] w1 fun e w' => e = .returned (.bool true) ∧ Below w.heap.size w w' := fun w1 hb => (awake_any _ (hg.below hb h8)).mono fun e w' ⟨h1, h2⟩ => ⟨h1, hb.trans (h2.mono hb.size)⟩
  have DONE := Lib.hid done
  have HRW := Lib.hid hr
  have HFW := Lib.hid hC
  clear done hr hC
  by_cases h1 : 12 < xss.length
  · have h1b : decide ((12 : Int) < (xss.length : Int)) = true := decide_eq_true (by omega)
    go_enter Tryd.func8, Tryd.ntmps8
    go_wp2_with fail
    refine (DONE.out _ (Below.refl _ _)).mono ?_
    rintro e w1 ⟨rfl, hb1⟩
    go_wp2
    go_ret
    exact ⟨rfl, hb1⟩
  have h1b : decide ((12 : Int) < (xss.length : Int)) = false := decide_eq_false (by omega)
  by_cases h2 : 5 < fs.length
  · have h2b : decide ((5 : Int) < (fs.length : Int)) = true := decide_eq_true (by omega)
    go_enter Tryd.func8, Tryd.ntmps8
    go_wp2_with fail
    refine (DONE.out _ (Below.refl _ _)).mono ?_
    rintro e w1 ⟨rfl, hb1⟩
    go_wp2
    go_ret
    exact ⟨rfl, hb1⟩
  have h2b : decide ((5 : Int) < (fs.length : Int)) = false := decide_eq_false (by omega)
  go_enter Tryd.func8, Tryd.ntmps8
  go_wp2_with fail
  refine (new_any 262144 _ 0 0 _).mono ?_
  rintro e w1 ⟨g, rfl, hT0, hb1⟩
  obtain ⟨st0, hT, hH0, hM0, hr0⟩ : ∃ st0, TapeAt w1 w.heap.size g none st0 ∧ Has st0 ⟨0, 0, [], false⟩ [] ∧ Mes st0 0 0 ∧ st0.room = 262144 := ⟨_, hT0, Jr.has_new .., mes_new .., rfl⟩
  clear hT0
  go_wp2_with fail
  refine (open_glue w.heap.size g none st0 ⟨0, 0, [], false⟩ [] 0 0 _ (hg.below hb1 h8) hb1.size hT hH0 hM0 (by decide) (by decide)).mono ?_
  rintro e w2 ⟨lv2, rfl, hJ2, hb2, _⟩
  have hB2 := hb1.trans (hb2.mono hb1.size)
  have HJ2 := Lib.hid hJ2
  have HB2 := Lib.hid hB2
  have HM0 := Lib.hid hM0
  have HH0 := Lib.hid hH0
  clear hb1 hb2 hT hB2 hJ2 hM0 hH0
  generalize w1.heap.size = b at *
  go_wp2
  go_loopw [14, 15, 16] (fun v m i wr => ∃ (k : Nat) (row : Option Nat) (st : TapeSt) (L M : List ByteArray), k ≤ xss.length ∧ i = .int .i64 k ∧ Hid ((∃ lv j xs, FAl w wr g b k row lv v m st j xs L M) ∨ (FBs w wr g row v m st L M ∧ st.down = true))) (fun _ _ i _ => xss.length - (intOf i).toNat)
  case atStart => exact ⟨0, none, st0, [], [], by omega, rfl, Lib.hid (.inl ⟨lv2, _, [], own_none _ _, apt_nil _ _ _ _, own_none _ _, apt_nil _ _ _ _, HJ2.out, HH0.out, HM0.out.mono (by omega) (by omega), rfl, by simp, by simp, Int.le_refl _, hr0, HB2.out⟩)⟩
  case round =>
    obtain ⟨k, row, st, L, M, hk, rfl, HHH⟩ := hrel
    obtain ⟨dn, hdn⟩ : ∃ dn, st.down = dn := ⟨_, rfl⟩
    have HB0 := Lib.hid (show FBs w wr g row u14 u15 st L M from by
      rcases HHH.out with ⟨lv, j, xs, h⟩ | ⟨h, _⟩
      · exact h.bs (by omega)
      · exact h)
    by_cases hlt : k < xss.length
    · cases dn with
      | true =>
        have HD := Lib.hid (down_any w.heap.size g row st wr HB0.out.tape)
        rw [hdn] at HD
        clear HHH
        go_wp2_with fail
        refine HD.out.mono ?_
        rintro e w' ⟨rfl, rfl⟩

        go_wp2
        go_loopw [17] (fun i wr => ∃ (q : Nat) (row : Option Nat) (st : TapeSt), q ≤ fs.length ∧ i = .int .i64 q ∧ Hid (FBs w wr g row u14 u15 st L M)) (fun i _ => fs.length - (intOf i).toNat)
        case atStart => exact ⟨0, row, st, by omega, rfl, HB0⟩
        case round =>
          obtain ⟨q, rowq, stq, hq, rfl, HB⟩ := hrel
          by_cases hltq : q < fs.length
          · obtain ⟨fd, eB, hcf⟩ := Kd.at_int HFW.out (q : Int) (by omega) (by omega)
            cases eB
            have hfb := World.block_lt_of_cell? w _ hcf
            have cf := (HB.out.below.cell hfb).trans hcf
            have hq0 : (0 : Int) ≤ (q : Int) := by omega
            rw [show ((q : Int)).toNat = q from rfl] at cf hcf hfb
            go_wp2_with fail
            clear cf hcf hfb
            refine (fall_glue w.heap.size g rowq stq 9000 50 262144 _ keep torn _ HB.out.tape HB.out.mes (by decide) (by decide)).mono ?_
            rintro e w3 ⟨rfl, row3, hT3, hR3, hF3, _⟩
            obtain ⟨st3, hB3, hr3, j3, xs3, hH3, hl3, ht3⟩ : ∃ st3, FBs w w3 g row3 u14 u15 st3 L M ∧ st3.room = 262144 ∧ ∃ j3 xs3, Has st3 j3 xs3 ∧ (j3.lines = L.map lb ∨ j3.lines = M.map lb) ∧ j3.turn ≤ 40 := ⟨_, FBs.fell HB.out _ _ _ _ hT3 hR3 hF3, rfl, HB.out.pf _ _ _ _⟩
            clear hT3 hR3 hF3 HB
            go_wp2_with fail
            refine (open_glue w.heap.size g row3 st3 j3 xs3 9000 50 _ (hg.below hB3.below h8) hB3.below.size hB3.tape hH3 hB3.mes (by decide) (by decide)).mono ?_
            rintro e w4 ⟨lv4, rfl, hJ4, hb4, _⟩
            have hB4 := hB3.on hb4
            have HJ4 := Lib.hid hJ4
            have HB4 := Lib.hid hB4
            have hNN : j3.lines.map bs = L ∨ j3.lines.map bs = M := by
              rcases hl3 with q | q
              · exact .inl (by rw [q, map_bs_lb])
              · exact .inr (by rw [q, map_bs_lb])
            have hLn := hB4.len
            have hMn := hB4.lenM
            have hNn : (j3.lines.map bs).length ≤ 30 := by rcases hNN with q | q <;> rw [q] <;> assumption
            have hNl : j3.lines.length ≤ 30 := by rw [List.length_map] at hNn; exact hNn
            clear hb4 hJ4 hB4 hB3 hl3
            generalize w3.heap.size = b4 at *
            go_wp2_with (go_at_call 13; refine (num_any _ _).mono ?_; rintro e w' ⟨rfl, rfl⟩)
            refine (lines_glue HJ4.out (by omega)).mono ?_
            rintro e w5 ⟨v5, rfl, hO5, hb5⟩
            have hB5 := HB4.out.on hb5
            have hb45 := hb5
            by_cases hNL : j3.lines.map bs = L
            · have HT5 := Lib.hid (texts_on hO5 hB5.own (by omega) true (decide_eq_true hNL))
              have HB5 := Lib.hid hB5
              clear hO5 hb5 hB5 hb45
              go_wp2_with fail
              refine (HT5.out _ (Below.refl _ _)).mono ?_
              rintro e w6 ⟨rfl, hb6⟩
              have HB6 := Lib.hid (HB5.out.on hb6)
              clear hb6 HT5 HB5 HJ4 HB4
              go_wp2
              go_roundw
              case rel => exact ⟨q + 1, row3, st3, by omega, by go_num, HB6⟩
              case measure => simp [intOf]; omega
            · have hNM : j3.lines.map bs = M := hNN.resolve_left hNL
              have HT5 := Lib.hid (texts_on hO5 hB5.own (by omega) false (decide_eq_false hNL))
              have HB5 := Lib.hid hB5
              have HJ5 := Lib.hid (HJ4.out.below hb5)
              clear hO5 hb5 hB5 hb45
              go_wp2_with fail
              refine (HT5.out _ (Below.refl _ _)).mono ?_
              rintro e w6 ⟨rfl, hb6⟩
              have HB6 := Lib.hid (HB5.out.on hb6)
              have hJ6 := HJ5.out.below hb6
              clear hb6 HT5 HB5 HJ4 HB4 HJ5
              go_wp2_with fail
              refine (lines_glue hJ6 (by omega)).mono ?_
              rintro e w7 ⟨v7, rfl, hO7, hb7⟩
              have HT7 := Lib.hid (texts_on hO7 (HB6.out.on hb7).ownM (by omega) true (decide_eq_true hNM))
              have HB7 := Lib.hid (HB6.out.on hb7)
              clear hO7 hb7 HB6 hJ6
              go_wp2_with fail
              refine (HT7.out _ (Below.refl _ _)).mono ?_
              rintro e w8 ⟨rfl, hb8⟩
              have HB8 := Lib.hid (HB7.out.on hb8)
              clear hb8 HT7 HB7
              go_wp2
              go_roundw
              case rel => exact ⟨q + 1, row3, st3, by omega, by go_num, HB8⟩
              case measure => simp [intOf]; omega
          · obtain rfl : q = fs.length := by omega
            go_wp2_with fail
            refine (fall_glue w.heap.size g rowq stq 9000 50 262144 _ keep torn _ HB.out.tape HB.out.mes (by decide) (by decide)).mono ?_
            rintro e w3 ⟨rfl, row3, hT3, hR3, hF3, _⟩
            obtain ⟨st3, hB3, hr3, hc3, j3, xs3, hH3, hl3, ht3⟩ : ∃ st3, FBs w w3 g row3 u14 u15 st3 L M ∧ st3.room = 262144 ∧ st3.crash = 0 ∧ ∃ j3 xs3, Has st3 j3 xs3 ∧ (j3.lines = L.map lb ∨ j3.lines = M.map lb) ∧ j3.turn ≤ 40 := ⟨_, FBs.fell HB.out _ _ _ _ hT3 hR3 hF3, rfl, rfl, HB.out.pf _ _ _ _⟩
            clear hT3 hR3 hF3 HB
            go_wp2_with fail
            refine (open_glue w.heap.size g row3 st3 j3 xs3 9000 50 _ (hg.below hB3.below h8) hB3.below.size hB3.tape hH3 hB3.mes (by decide) (by decide)).mono ?_
            rintro e w4 ⟨lv4, rfl, hJ4, hb4, _⟩
            have hB4 := hB3.on hb4
            have HJ4 := Lib.hid hJ4
            have HB4 := Lib.hid hB4
            have hNN : j3.lines.map bs = L ∨ j3.lines.map bs = M := by
              rcases hl3 with q | q
              · exact .inl (by rw [q, map_bs_lb])
              · exact .inr (by rw [q, map_bs_lb])
            have hLn := hB4.len
            have hMn := hB4.lenM
            have hNn : (j3.lines.map bs).length ≤ 30 := by rcases hNN with q | q <;> rw [q] <;> assumption
            have hNl : j3.lines.length ≤ 30 := by rw [List.length_map] at hNn; exact hNn
            clear hb4 hJ4 hB4 hB3 hl3
            generalize w3.heap.size = b4 at *
            go_wp2_with (go_at_call 13; refine (num_any _ _).mono ?_; rintro e w' ⟨rfl, rfl⟩)
            refine (lines_glue HJ4.out (by omega)).mono ?_
            rintro e w5 ⟨v5, rfl, hO5, hb5⟩
            have hB5 := HB4.out.on hb5
            have hb45 := hb5
            have HW5 : Below w4.heap.size w4 w5 := hb45
            by_cases hNL : j3.lines.map bs = L
            · have HT5 := Lib.hid (texts_on hO5 hB5.own (by omega) true (decide_eq_true hNL))
              clear hO5 hb5 hB5 hb45
              go_wp2_with fail
              refine (HT5.out _ (Below.refl _ _)).mono ?_
              rintro e wn ⟨rfl, hbn⟩
              have HN := Lib.hid (HW5.trans (hbn.mono HW5.size))
              clear hbn HT5 HW5
              have hW := HB4.out.below.trans (HN.out.mono HB4.out.below.size)
              have HJn := Lib.hid (HJ4.out.below HN.out)
              have HW := Lib.hid hW
              have hturn := ht3
              have HM := Lib.hid HB4.out.mes
              clear hW HN HB4 HJ4 hNN
              try clear hNM
              try clear hNL
              go_wp2_with fail
              have hE1 := own_empty wn wn.heap.size (Nat.le_refl _)
              have hAE : Below wn.heap.size wn (wn.alloc (.cells #[] 9)) := (Below.refl wn.heap.size wn).alloc (Nat.le_refl _) _
              refine (lines_glue (HJn.out.below hAE) (by omega)).mono ?_
              rintro e wl ⟨vl, rfl, hOl, hbl⟩
              have hAl := hAE.trans (hbl.mono hAE.size)
              have HEl := Lib.hid (pw_own_below hE1 hbl)
              generalize hNNg : j3.lines.map bs = NN at *
              have HNNg := Lib.hid hNNg
              clear hNNg
              obtain ⟨Al, cl, rfl⟩ := own_slice hOl
              obtain ⟨i0, hi, hz0, hz1, hz2⟩ := info_parts info9
              have Hi := Lib.hid hi
              have Hz0 := Lib.hid hz0
              have Hz1 := Lib.hid hz1
              have Hz2 := Lib.hid hz2
              have HAl := Lib.hid hAl
              clear hi hz0 hz1 hz2 hE1 hAE hbl hAl
              have hsl : wn.heap.size ≤ wl.heap.size := HAl.out.size
              cases Al with
              | none =>
                obtain ⟨e1, e2, e3⟩ := own_none_nil hOl
                subst e2 e3
                have HC := HEl
                clear hOl
                go_wp2_with (at_builtin; refine wpList_append_own_at _ rfl (.tmp 222) (.tmp 223) 34 rfl wn.heap.size 9 i0 (.string ⟨#[]⟩) 1 16 Tryd.underlying34 Hi.out Hz0.out Hz1.out Hz2.out rfl (by decide) _ 0 [] rfl (World.ownsRow.alloc HC.out _) ⟨wl.heap.size, 0, none⟩ 1 1 [.string moreB] rfl rfl (cell_one_new _ _ _) (by intro u hu; simp at hu; subst hu; rfl) (by decide) (by decide) (by simp; omega) ?_; intro vm wm hownm hgrm _ hatm; have HOM := Lib.hid hownm; have HGM := Lib.hid hgrm; clear hownm hgrm hatm)
                have hOM : OwnLines wm wn.heap.size vm (([] : List ByteArray) ++ [moreB]) := by
                  unfold OwnLines
                  rw [List.length_append, List.map_append]
                  exact HOM.out
                have hQM : Below wn.heap.size wn wm := (HAl.out.alloc HAl.out.size _).grown (show World.grownBy _ wm (some wn.heap.size) from HGM.out) (by simp; omega) (fun k e => by cases e; exact Nat.le_refl _)
                have hJm := HJn.out.below hQM
                have hBm := HW.out.trans (hQM.mono HW.out.size)
                have hApm : Apt vm b4 g row3 lv4 := apt_fresh HJn.out (own_bound hOM)
                have hMm := HM.out
                clear HOM HGM hQM HJn HW HM HEl HC
                refine (note_glue w.heap.size b4 g row3 lv4 st3 j3 xs3 9000 50 moreB _ (hg.below hBm h8) h8 hBm.size hJm hH3 hMm (by decide) (by omega) (by omega) (by omega) (by decide) (by rw [hr3]; decide)).mono ?_
                intro e w5 hL
                obtain ⟨st5, j5, xs5, row5, lv5, rfl, hJ5, hH5, hM5, hr5, hc5, hl5, ht5, hb5, hF5, hR5, hV5⟩ := hL.calm hc3 hJm hBm.size
                obtain ⟨hO5, hAp5⟩ := held_call hOM hApm hF5 hR5 hV5
                have hB5 := hBm.trans hb5
                have hT5 := hJ5.tape
                clear hL hOM hJm hBm hApm hMm hb5 hF5 hR5 hV5 hJ5 hH3
                go_wp2_with fail
                refine (fall_glue w.heap.size g row5 st5 _ _ 262144 0 0 0 _ hT5 hM5 (by decide) (by decide)).mono ?_
                rintro e w6 ⟨rfl, row6, hT6, _, hF6, hM6⟩
                have hO6 : OwnLines w6 wn.heap.size vm (([] : List ByteArray) ++ [moreB]) := own_move2 hO5 fun q e => hF6.block q (own_lt hO5 q e) (hAp5 q e).2.1 (fun e2 => (hAp5 q e).2.2.1 e2.symm)
                have hB6 := hB5.trans (fr_below hT5 hB5.size hF6)
                have hH6 := hH5.fall 262144 0 0 0
                generalize fallF st5 262144 0 0 0 = st6 at *
                clear hT5 hO5 hAp5 hF6 hB5 hH5 hM5
                go_wp2_with fail
                refine (open_glue w.heap.size g row6 st6 j5 xs5 _ _ _ (hg.below hB6 h8) hB6.size hT6 hH6 hM6 (by decide) (by decide)).mono ?_
                rintro e w7 ⟨lv7, rfl, hJ7, hb7, _⟩
                have hO7 : OwnLines w7 wn.heap.size vm (([] : List ByteArray) ++ [moreB]) := pw_own_below hO6 hb7
                have hB7 := hB6.trans (hb7.mono hB6.size)
                generalize w6.heap.size = b7 at *
                clear hT6 hO6 hB6 hb7 hM6 hH6
                have hl5b : j5.lines.map bs = ([] : List ByteArray) ++ [moreB] := by
                  rw [hl5, List.map_append, HNNg.out]
                  simp only [List.map_cons, List.map_nil, bs_lb]
                go_wp2_with (go_at_call 13; refine (num_any _ _).mono ?_; rintro e w' ⟨rfl, rfl⟩)
                refine (lines_glue hJ7 (by rw [hl5, List.length_append]; simp only [List.length_singleton]; omega)).mono ?_
                rintro e w8 ⟨v8, rfl, hO8, hb8⟩
                rw [hl5b] at hO8
                have HT8 := Lib.hid (texts_on hO8 (show OwnLines w8 wn.heap.size vm (([] : List ByteArray) ++ [moreB]) from pw_own_below hO7 hb8) (by rw [List.length_append]; simp only [List.length_singleton, List.length_nil]; omega) true (decide_eq_true rfl))
                have HB8 := Lib.hid (hB7.trans (hb8.mono hB7.size))
                clear hO8 hO7 hb8 hB7 hJ7
                go_wp2_with fail
                refine (HT8.out _ (Below.refl _ _)).mono ?_
                rintro e w9 ⟨rfl, hb9⟩
                have hB9 := HB8.out.trans (hb9.mono HB8.out.size)
                clear hb9 HT8 HB8
                go_wp2_with fail
                refine (DONE.out _ hB9).mono ?_
                rintro e wz ⟨rfl, hbz⟩
                go_wp2
                go_ret
                exact ⟨rfl, hbz⟩
              | some al =>
                have HNW := Lib.hid (own_news hOl).2
                clear hOl
                go_wp2_with (first | (at_builtin; refine wpList_append_own_at _ rfl (.tmp 219) (.tmp 221) 34 rfl wn.heap.size 9 i0 (.string ⟨#[]⟩) 1 16 Tryd.underlying34 Hi.out Hz0.out Hz1.out Hz2.out rfl (by decide) _ 0 [] rfl HEl.out al NN.length cl (NN.map Value.string) rfl (by simp) HNW.out (by intro u hu; simp at hu; obtain ⟨y, _, rfl⟩ := hu; rfl) (by unfold maxLen; omega) (by omega) hsl ?_; intro vk wk hownk hgrk _ hatk; have hqk : Below wn.heap.size wn wk := HAl.out.grown (show World.grownBy _ wk (some wn.heap.size) from hgrk) HAl.out.size (fun k e => by cases e; exact Nat.le_refl _); have hownk2 : wk.ownsRow wn.heap.size 9 1 vk NN.length (NN.map Value.string) := (by simpa using hownk); have hownk3 := World.ownsRow.alloc hownk2 (.cells #[.string moreB] 9); have HOK := Lib.hid hownk3; have HQK := Lib.hid hqk; have hsk := hqk.size; clear hownk hgrk hatk hownk2 hownk3 hqk) | (at_builtin; refine wpList_append_own_at _ rfl (.tmp 222) (.tmp 223) 34 rfl wn.heap.size 9 i0 (.string ⟨#[]⟩) 1 16 Tryd.underlying34 Hi.out Hz0.out Hz1.out Hz2.out rfl (by decide) _ NN.length (NN.map Value.string) rfl HOK.out ⟨wk.heap.size, 0, none⟩ 1 1 [.string moreB] rfl rfl (cell_one_new _ _ _) (by intro u hu; simp at hu; subst hu; rfl) (by unfold maxLen; omega) (by omega) (by simp; omega) ?_; intro vm wm hownm hgrm _ hatm; have HOM := Lib.hid hownm; have HGM := Lib.hid hgrm; clear hownm hgrm hatm))
                have hOM : OwnLines wm wn.heap.size vm (NN ++ [moreB]) := by
                  unfold OwnLines
                  rw [List.length_append, List.map_append]
                  exact HOM.out
                have hQM : Below wn.heap.size wn wm := (HQK.out.alloc HQK.out.size _).grown (show World.grownBy _ wm vk.ownBlock from HGM.out) (by simp; omega) (fun k e => own_base HOK.out k e)
                have hJm := HJn.out.below hQM
                have hBm := HW.out.trans (hQM.mono HW.out.size)
                have hApm : Apt vm b4 g row3 lv4 := apt_fresh HJn.out (own_bound hOM)
                have hMm := HM.out
                clear HOM HGM hQM HJn HW HM HEl HNW HOK HQK
                refine (note_glue w.heap.size b4 g row3 lv4 st3 j3 xs3 9000 50 moreB _ (hg.below hBm h8) h8 hBm.size hJm hH3 hMm (by decide) (by omega) (by omega) (by omega) (by decide) (by rw [hr3]; decide)).mono ?_
                intro e w5 hL
                obtain ⟨st5, j5, xs5, row5, lv5, rfl, hJ5, hH5, hM5, hr5, hc5, hl5, ht5, hb5, hF5, hR5, hV5⟩ := hL.calm hc3 hJm hBm.size
                obtain ⟨hO5, hAp5⟩ := held_call hOM hApm hF5 hR5 hV5
                have hB5 := hBm.trans hb5
                have hT5 := hJ5.tape
                clear hL hOM hJm hBm hApm hMm hb5 hF5 hR5 hV5 hJ5 hH3
                go_wp2_with fail
                refine (fall_glue w.heap.size g row5 st5 _ _ 262144 0 0 0 _ hT5 hM5 (by decide) (by decide)).mono ?_
                rintro e w6 ⟨rfl, row6, hT6, _, hF6, hM6⟩
                have hO6 : OwnLines w6 wn.heap.size vm (NN ++ [moreB]) := own_move2 hO5 fun q e => hF6.block q (own_lt hO5 q e) (hAp5 q e).2.1 (fun e2 => (hAp5 q e).2.2.1 e2.symm)
                have hB6 := hB5.trans (fr_below hT5 hB5.size hF6)
                have hH6 := hH5.fall 262144 0 0 0
                generalize fallF st5 262144 0 0 0 = st6 at *
                clear hT5 hO5 hAp5 hF6 hB5 hH5 hM5
                go_wp2_with fail
                refine (open_glue w.heap.size g row6 st6 j5 xs5 _ _ _ (hg.below hB6 h8) hB6.size hT6 hH6 hM6 (by decide) (by decide)).mono ?_
                rintro e w7 ⟨lv7, rfl, hJ7, hb7, _⟩
                have hO7 : OwnLines w7 wn.heap.size vm (NN ++ [moreB]) := pw_own_below hO6 hb7
                have hB7 := hB6.trans (hb7.mono hB6.size)
                generalize w6.heap.size = b7 at *
                clear hT6 hO6 hB6 hb7 hM6 hH6
                have hl5b : j5.lines.map bs = NN ++ [moreB] := by
                  rw [hl5, List.map_append, HNNg.out]
                  simp only [List.map_cons, List.map_nil, bs_lb]
                go_wp2_with (go_at_call 13; refine (num_any _ _).mono ?_; rintro e w' ⟨rfl, rfl⟩)
                refine (lines_glue hJ7 (by rw [hl5, List.length_append]; simp only [List.length_singleton]; omega)).mono ?_
                rintro e w8 ⟨v8, rfl, hO8, hb8⟩
                rw [hl5b] at hO8
                have HT8 := Lib.hid (texts_on hO8 (show OwnLines w8 wn.heap.size vm (NN ++ [moreB]) from pw_own_below hO7 hb8) (by rw [List.length_append]; simp only [List.length_singleton]; omega) true (decide_eq_true rfl))
                have HB8 := Lib.hid (hB7.trans (hb8.mono hB7.size))
                clear hO8 hO7 hb8 hB7 hJ7
                go_wp2_with fail
                refine (HT8.out _ (Below.refl _ _)).mono ?_
                rintro e w9 ⟨rfl, hb9⟩
                have hB9 := HB8.out.trans (hb9.mono HB8.out.size)
                clear hb9 HT8 HB8
                go_wp2_with fail
                refine (DONE.out _ hB9).mono ?_
                rintro e wz ⟨rfl, hbz⟩
                go_wp2
                go_ret
                exact ⟨rfl, hbz⟩
            · have hNM : j3.lines.map bs = M := hNN.resolve_left hNL
              have HT5 := Lib.hid (texts_on hO5 hB5.own (by omega) false (decide_eq_false hNL))
              have HJ5 := Lib.hid (HJ4.out.below hb5)
              have HB5 := Lib.hid hB5
              clear hO5 hb5 hB5 hb45
              go_wp2_with fail
              refine (HT5.out _ (Below.refl _ _)).mono ?_
              rintro e w6 ⟨rfl, hb6⟩
              have HB6 := Lib.hid (HB5.out.on hb6)
              have hJ6 := HJ5.out.below hb6
              have HW6 := HW5.trans (hb6.mono HW5.size)
              clear hb6 HT5 HB5 HJ5 HW5
              go_wp2_with fail
              refine (lines_glue hJ6 (by omega)).mono ?_
              rintro e w7 ⟨v7, rfl, hO7, hb7⟩
              have HT7 := Lib.hid (texts_on hO7 (HB6.out.on hb7).ownM (by omega) true (decide_eq_true hNM))
              have HW7 := HW6.trans (hb7.mono HW6.size)
              clear hO7 hb7 HB6 hJ6 HW6
              go_wp2_with fail
              refine (HT7.out _ (Below.refl _ _)).mono ?_
              rintro e wn ⟨rfl, hbn⟩
              have HN := Lib.hid (HW7.trans (hbn.mono HW7.size))
              clear hbn HT7 HW7
              have hW := HB4.out.below.trans (HN.out.mono HB4.out.below.size)
              have HJn := Lib.hid (HJ4.out.below HN.out)
              have HW := Lib.hid hW
              have hturn := ht3
              have HM := Lib.hid HB4.out.mes
              clear hW HN HB4 HJ4 hNN
              try clear hNM
              try clear hNL
              go_wp2_with fail
              have hE1 := own_empty wn wn.heap.size (Nat.le_refl _)
              have hAE : Below wn.heap.size wn (wn.alloc (.cells #[] 9)) := (Below.refl wn.heap.size wn).alloc (Nat.le_refl _) _
              refine (lines_glue (HJn.out.below hAE) (by omega)).mono ?_
              rintro e wl ⟨vl, rfl, hOl, hbl⟩
              have hAl := hAE.trans (hbl.mono hAE.size)
              have HEl := Lib.hid (pw_own_below hE1 hbl)
              generalize hNNg : j3.lines.map bs = NN at *
              have HNNg := Lib.hid hNNg
              clear hNNg
              obtain ⟨Al, cl, rfl⟩ := own_slice hOl
              obtain ⟨i0, hi, hz0, hz1, hz2⟩ := info_parts info9
              have Hi := Lib.hid hi
              have Hz0 := Lib.hid hz0
              have Hz1 := Lib.hid hz1
              have Hz2 := Lib.hid hz2
              have HAl := Lib.hid hAl
              clear hi hz0 hz1 hz2 hE1 hAE hbl hAl
              have hsl : wn.heap.size ≤ wl.heap.size := HAl.out.size
              cases Al with
              | none =>
                obtain ⟨e1, e2, e3⟩ := own_none_nil hOl
                subst e2 e3
                have HC := HEl
                clear hOl
                go_wp2_with (at_builtin; refine wpList_append_own_at _ rfl (.tmp 222) (.tmp 223) 34 rfl wn.heap.size 9 i0 (.string ⟨#[]⟩) 1 16 Tryd.underlying34 Hi.out Hz0.out Hz1.out Hz2.out rfl (by decide) _ 0 [] rfl (World.ownsRow.alloc HC.out _) ⟨wl.heap.size, 0, none⟩ 1 1 [.string moreB] rfl rfl (cell_one_new _ _ _) (by intro u hu; simp at hu; subst hu; rfl) (by decide) (by decide) (by simp; omega) ?_; intro vm wm hownm hgrm _ hatm; have HOM := Lib.hid hownm; have HGM := Lib.hid hgrm; clear hownm hgrm hatm)
                have hOM : OwnLines wm wn.heap.size vm (([] : List ByteArray) ++ [moreB]) := by
                  unfold OwnLines
                  rw [List.length_append, List.map_append]
                  exact HOM.out
                have hQM : Below wn.heap.size wn wm := (HAl.out.alloc HAl.out.size _).grown (show World.grownBy _ wm (some wn.heap.size) from HGM.out) (by simp; omega) (fun k e => by cases e; exact Nat.le_refl _)
                have hJm := HJn.out.below hQM
                have hBm := HW.out.trans (hQM.mono HW.out.size)
                have hApm : Apt vm b4 g row3 lv4 := apt_fresh HJn.out (own_bound hOM)
                have hMm := HM.out
                clear HOM HGM hQM HJn HW HM HEl HC
                refine (note_glue w.heap.size b4 g row3 lv4 st3 j3 xs3 9000 50 moreB _ (hg.below hBm h8) h8 hBm.size hJm hH3 hMm (by decide) (by omega) (by omega) (by omega) (by decide) (by rw [hr3]; decide)).mono ?_
                intro e w5 hL
                obtain ⟨st5, j5, xs5, row5, lv5, rfl, hJ5, hH5, hM5, hr5, hc5, hl5, ht5, hb5, hF5, hR5, hV5⟩ := hL.calm hc3 hJm hBm.size
                obtain ⟨hO5, hAp5⟩ := held_call hOM hApm hF5 hR5 hV5
                have hB5 := hBm.trans hb5
                have hT5 := hJ5.tape
                clear hL hOM hJm hBm hApm hMm hb5 hF5 hR5 hV5 hJ5 hH3
                go_wp2_with fail
                refine (fall_glue w.heap.size g row5 st5 _ _ 262144 0 0 0 _ hT5 hM5 (by decide) (by decide)).mono ?_
                rintro e w6 ⟨rfl, row6, hT6, _, hF6, hM6⟩
                have hO6 : OwnLines w6 wn.heap.size vm (([] : List ByteArray) ++ [moreB]) := own_move2 hO5 fun q e => hF6.block q (own_lt hO5 q e) (hAp5 q e).2.1 (fun e2 => (hAp5 q e).2.2.1 e2.symm)
                have hB6 := hB5.trans (fr_below hT5 hB5.size hF6)
                have hH6 := hH5.fall 262144 0 0 0
                generalize fallF st5 262144 0 0 0 = st6 at *
                clear hT5 hO5 hAp5 hF6 hB5 hH5 hM5
                go_wp2_with fail
                refine (open_glue w.heap.size g row6 st6 j5 xs5 _ _ _ (hg.below hB6 h8) hB6.size hT6 hH6 hM6 (by decide) (by decide)).mono ?_
                rintro e w7 ⟨lv7, rfl, hJ7, hb7, _⟩
                have hO7 : OwnLines w7 wn.heap.size vm (([] : List ByteArray) ++ [moreB]) := pw_own_below hO6 hb7
                have hB7 := hB6.trans (hb7.mono hB6.size)
                generalize w6.heap.size = b7 at *
                clear hT6 hO6 hB6 hb7 hM6 hH6
                have hl5b : j5.lines.map bs = ([] : List ByteArray) ++ [moreB] := by
                  rw [hl5, List.map_append, HNNg.out]
                  simp only [List.map_cons, List.map_nil, bs_lb]
                go_wp2_with (go_at_call 13; refine (num_any _ _).mono ?_; rintro e w' ⟨rfl, rfl⟩)
                refine (lines_glue hJ7 (by rw [hl5, List.length_append]; simp only [List.length_singleton]; omega)).mono ?_
                rintro e w8 ⟨v8, rfl, hO8, hb8⟩
                rw [hl5b] at hO8
                have HT8 := Lib.hid (texts_on hO8 (show OwnLines w8 wn.heap.size vm (([] : List ByteArray) ++ [moreB]) from pw_own_below hO7 hb8) (by rw [List.length_append]; simp only [List.length_singleton, List.length_nil]; omega) true (decide_eq_true rfl))
                have HB8 := Lib.hid (hB7.trans (hb8.mono hB7.size))
                clear hO8 hO7 hb8 hB7 hJ7
                go_wp2_with fail
                refine (HT8.out _ (Below.refl _ _)).mono ?_
                rintro e w9 ⟨rfl, hb9⟩
                have hB9 := HB8.out.trans (hb9.mono HB8.out.size)
                clear hb9 HT8 HB8
                go_wp2_with fail
                refine (DONE.out _ hB9).mono ?_
                rintro e wz ⟨rfl, hbz⟩
                go_wp2
                go_ret
                exact ⟨rfl, hbz⟩
              | some al =>
                have HNW := Lib.hid (own_news hOl).2
                clear hOl
                go_wp2_with (first | (at_builtin; refine wpList_append_own_at _ rfl (.tmp 219) (.tmp 221) 34 rfl wn.heap.size 9 i0 (.string ⟨#[]⟩) 1 16 Tryd.underlying34 Hi.out Hz0.out Hz1.out Hz2.out rfl (by decide) _ 0 [] rfl HEl.out al NN.length cl (NN.map Value.string) rfl (by simp) HNW.out (by intro u hu; simp at hu; obtain ⟨y, _, rfl⟩ := hu; rfl) (by unfold maxLen; omega) (by omega) hsl ?_; intro vk wk hownk hgrk _ hatk; have hqk : Below wn.heap.size wn wk := HAl.out.grown (show World.grownBy _ wk (some wn.heap.size) from hgrk) HAl.out.size (fun k e => by cases e; exact Nat.le_refl _); have hownk2 : wk.ownsRow wn.heap.size 9 1 vk NN.length (NN.map Value.string) := (by simpa using hownk); have hownk3 := World.ownsRow.alloc hownk2 (.cells #[.string moreB] 9); have HOK := Lib.hid hownk3; have HQK := Lib.hid hqk; have hsk := hqk.size; clear hownk hgrk hatk hownk2 hownk3 hqk) | (at_builtin; refine wpList_append_own_at _ rfl (.tmp 222) (.tmp 223) 34 rfl wn.heap.size 9 i0 (.string ⟨#[]⟩) 1 16 Tryd.underlying34 Hi.out Hz0.out Hz1.out Hz2.out rfl (by decide) _ NN.length (NN.map Value.string) rfl HOK.out ⟨wk.heap.size, 0, none⟩ 1 1 [.string moreB] rfl rfl (cell_one_new _ _ _) (by intro u hu; simp at hu; subst hu; rfl) (by unfold maxLen; omega) (by omega) (by simp; omega) ?_; intro vm wm hownm hgrm _ hatm; have HOM := Lib.hid hownm; have HGM := Lib.hid hgrm; clear hownm hgrm hatm))
                have hOM : OwnLines wm wn.heap.size vm (NN ++ [moreB]) := by
                  unfold OwnLines
                  rw [List.length_append, List.map_append]
                  exact HOM.out
                have hQM : Below wn.heap.size wn wm := (HQK.out.alloc HQK.out.size _).grown (show World.grownBy _ wm vk.ownBlock from HGM.out) (by simp; omega) (fun k e => own_base HOK.out k e)
                have hJm := HJn.out.below hQM
                have hBm := HW.out.trans (hQM.mono HW.out.size)
                have hApm : Apt vm b4 g row3 lv4 := apt_fresh HJn.out (own_bound hOM)
                have hMm := HM.out
                clear HOM HGM hQM HJn HW HM HEl HNW HOK HQK
                refine (note_glue w.heap.size b4 g row3 lv4 st3 j3 xs3 9000 50 moreB _ (hg.below hBm h8) h8 hBm.size hJm hH3 hMm (by decide) (by omega) (by omega) (by omega) (by decide) (by rw [hr3]; decide)).mono ?_
                intro e w5 hL
                obtain ⟨st5, j5, xs5, row5, lv5, rfl, hJ5, hH5, hM5, hr5, hc5, hl5, ht5, hb5, hF5, hR5, hV5⟩ := hL.calm hc3 hJm hBm.size
                obtain ⟨hO5, hAp5⟩ := held_call hOM hApm hF5 hR5 hV5
                have hB5 := hBm.trans hb5
                have hT5 := hJ5.tape
                clear hL hOM hJm hBm hApm hMm hb5 hF5 hR5 hV5 hJ5 hH3
                go_wp2_with fail
                refine (fall_glue w.heap.size g row5 st5 _ _ 262144 0 0 0 _ hT5 hM5 (by decide) (by decide)).mono ?_
                rintro e w6 ⟨rfl, row6, hT6, _, hF6, hM6⟩
                have hO6 : OwnLines w6 wn.heap.size vm (NN ++ [moreB]) := own_move2 hO5 fun q e => hF6.block q (own_lt hO5 q e) (hAp5 q e).2.1 (fun e2 => (hAp5 q e).2.2.1 e2.symm)
                have hB6 := hB5.trans (fr_below hT5 hB5.size hF6)
                have hH6 := hH5.fall 262144 0 0 0
                generalize fallF st5 262144 0 0 0 = st6 at *
                clear hT5 hO5 hAp5 hF6 hB5 hH5 hM5
                go_wp2_with fail
                refine (open_glue w.heap.size g row6 st6 j5 xs5 _ _ _ (hg.below hB6 h8) hB6.size hT6 hH6 hM6 (by decide) (by decide)).mono ?_
                rintro e w7 ⟨lv7, rfl, hJ7, hb7, _⟩
                have hO7 : OwnLines w7 wn.heap.size vm (NN ++ [moreB]) := pw_own_below hO6 hb7
                have hB7 := hB6.trans (hb7.mono hB6.size)
                generalize w6.heap.size = b7 at *
                clear hT6 hO6 hB6 hb7 hM6 hH6
                have hl5b : j5.lines.map bs = NN ++ [moreB] := by
                  rw [hl5, List.map_append, HNNg.out]
                  simp only [List.map_cons, List.map_nil, bs_lb]
                go_wp2_with (go_at_call 13; refine (num_any _ _).mono ?_; rintro e w' ⟨rfl, rfl⟩)
                refine (lines_glue hJ7 (by rw [hl5, List.length_append]; simp only [List.length_singleton]; omega)).mono ?_
                rintro e w8 ⟨v8, rfl, hO8, hb8⟩
                rw [hl5b] at hO8
                have HT8 := Lib.hid (texts_on hO8 (show OwnLines w8 wn.heap.size vm (NN ++ [moreB]) from pw_own_below hO7 hb8) (by rw [List.length_append]; simp only [List.length_singleton]; omega) true (decide_eq_true rfl))
                have HB8 := Lib.hid (hB7.trans (hb8.mono hB7.size))
                clear hO8 hO7 hb8 hB7 hJ7
                go_wp2_with fail
                refine (HT8.out _ (Below.refl _ _)).mono ?_
                rintro e w9 ⟨rfl, hb9⟩
                have hB9 := HB8.out.trans (hb9.mono HB8.out.size)
                clear hb9 HT8 HB8
                go_wp2_with fail
                refine (DONE.out _ hB9).mono ?_
                rintro e wz ⟨rfl, hbz⟩
                go_wp2
                go_ret
                exact ⟨rfl, hbz⟩
      | false =>
        obtain ⟨lv, j, xs, HH⟩ : ∃ lv j xs, Hid (FAl w wr g b k row lv u14 u15 st j xs L M) := by
          rcases HHH.out with ⟨lv, j, xs, h⟩ | ⟨_, h⟩
          · exact ⟨lv, j, xs, Lib.hid h⟩
          · rw [hdn] at h; cases h
        clear HHH
        have HD := Lib.hid (down_any w.heap.size g row st wr HH.out.jat.tape)
        rw [hdn] at HD
        obtain ⟨ad, u, eA, hcu, hBu⟩ : ∃ ad u, A = some ad ∧ w.cell? (ad.add k) = some u ∧ BytesAt w u xss[k] := by
          obtain ⟨A', c', e, h⟩ := HRW.out
          injection e with e1
          subst e1
          exact h k hlt
        subst eA
        obtain ⟨Ak, ck, rfl, hck, hCk, hUk⟩ := hBu
        have hblk : (ad.add k).block < w.heap.size := World.block_lt_of_cell? w _ hcu
        have HCU := Lib.hid (show ∀ w', Below w.heap.size w w' → w'.cell? (ad.add k) = some (.slice Ak xss[k].length ck) from fun w' hb => (hb.cell hblk).trans hcu)
        have HCK := Lib.hid hCk
        have HUK := Lib.hid hUk
        have HCC := Lib.hid hck
        clear hcu hCk hUk hck
        generalize xss[k] = ys at *
        have c0 := HCU.out _ HH.out.below
        by_cases hy12 : 12 < ys.length
        · have hyb : decide ((12 : Int) < (ys.length : Int)) = true := decide_eq_true (by omega)
          go_wp2_with fail
          refine HD.out.mono ?_
          rintro e w' ⟨rfl, rfl⟩
          go_wp2_with fail
          refine (DONE.out _ HH.out.below).mono ?_
          rintro e w1 ⟨rfl, hb1⟩
          go_wp2
          go_ret
          exact ⟨rfl, hb1⟩
        have hyb : decide ((12 : Int) < (ys.length : Int)) = false := decide_eq_false (by omega)
        by_cases hev : ys.length % 2 = 0
        · have hevb : (((ys.length : Nat) : Int).tmod 2 == 0) = true := by rw [beq_iff_eq, Int.tmod_eq_emod_of_nonneg (Int.natCast_nonneg _)]; omega
          go_wp2_with fail
          refine HD.out.mono ?_
          rintro e w' ⟨rfl, rfl⟩
          go_wp2_with fail
          have hsl := sizeL_lines hln ys HUK.out
          refine (hln.lines ys Ak ck _ HUK.out (by omega) (Kd.C_below HCK.out HH.out.below) HCC.out).mono ?_
          rintro e w3 ⟨v3, rfl, hO3, hb3⟩
          have hJ3 := HH.out.jat.below hb3
          have hOL3 : OwnLines w3 w.heap.size u14 L := pw_own_below HH.out.own hb3
          have hB3 := HH.out.below.trans (hb3.mono HH.out.below.size)
          have hAp3 : Apt v3 b g row lv := apt_fresh HH.out.jat (own_bound hO3)
          have hO3w : OwnLines w3 w.heap.size v3 (ys.map ln) := own_weaken hO3 HH.out.below.size
          have htn := HH.out.turn
          have hrm := HH.out.room
          clear hb3 hO3 c0 hdn HD HB0
          go_wp2_with fail
          refine (save_own w.heap.size b g row lv st j xs _ _ v3 _ (ys.map ln) _ (hg.below hB3 h8) h8 hB3.size hJ3 HH.out.has HH.out.mes (by omega) (by omega) (by omega) hO3w hAp3 (by rw [List.length_map]; omega) (lines_ok hln HUK.out) (by rw [hrm]; omega)).mono ?_
          intro e w9 hL
          obtain ⟨stN, jN, code, rowN, lvN, rfl, hJ4, hR4, hF4, hV4, hO4x, hM4, hr4, _⟩ := hL
          obtain ⟨hO4, hAp4⟩ := held_call hO3w hAp3 hF4 hR4 hV4
          obtain ⟨hOl, hApl⟩ := held_call hOL3 HH.out.apt hF4 hR4 hV4
          have hbN := Below.trans hB3 (Jat.frame hJ3 hB3.size hF4)
          obtain ⟨LN, hLN⟩ : ∃ LN, LN = ys.map ln := ⟨_, rfl⟩
          have hlL : LN.length ≤ 12 + (k + 1) := by rw [hLN, List.length_map]; omega
          have hON : OwnLines w9 w.heap.size v3 LN := by rw [hLN]; exact hO4
          have hApN := hAp4
          have hLb : (ys.map ln).map lb = LN.map lb := by rw [hLN]
          have hMN : Mes stN ((k + 1) * 700) ((k + 1) * 3) := hM4.mono (by omega) (by omega)
          clear hJ3 hO3w hAp3 hB3 hM4 hF4 hR4 hV4 hO4 hAp4 hLN hOL3

          cases hO4x with
          | ok h0 xsN hHN hlN htN _ _ =>
            subst h0
            have HI := Lib.hid (show FAl w w9 g b (k + 1) rowN lvN v3 v3 stN jN xsN LN LN from ⟨hON, hApN, hON, hApN, hJ4, hHN, hMN, by rw [hlN, hLb], hlL, hlL, by omega, by rw [hr4, hrm], hbN⟩)
            clear hJ4 hMN hON hApN hOl hApl hbN
            go_wp2_with fail
            refine (num_any 0 _).mono ?_
            rintro e w' ⟨rfl, rfl⟩
            go_wp2
            go_roundw
            case rel => exact ⟨k + 1, rowN, stN, LN, LN, by omega, by go_num, Lib.hid (.inl ⟨lvN, jN, xsN, HI.out⟩)⟩
            case measure => simp [intOf]; omega
          | fell h0 hD =>
            subst h0
            have hdN := hD.1
            have HI := Lib.hid (show FBs w w9 g rowN u14 v3 stN L LN from ⟨hJ4.tape, hOl, hON, fun q e => ⟨(hApl q e).2.1, (hApl q e).2.2.1⟩, fun q e => ⟨(hApN q e).2.1, (hApN q e).2.2.1⟩, fun a b c d => by
                obtain ⟨j1, x1, q1, q2, q3⟩ := hD.2 a b c d
                exact ⟨j1, x1, q1, q2.imp (fun q => by rw [q, HH.out.lines]) (fun q => by rw [q, hLb]), by omega⟩, hMN.mono (by omega) (by omega), by have := HH.out.len; omega, by omega, hbN⟩)
            have HDN := Lib.hid (down_any w.heap.size g rowN stN w9 hJ4.tape)
            rw [hdN] at HDN
            have HdN := Lib.hid hdN
            clear hJ4 hMN hON hApN hOl hApl hbN hdN hD
            go_wp2_with (go_at_call 13; refine (num_any _ _).mono ?_; rintro e w' ⟨rfl, rfl⟩)
            refine HDN.out.mono ?_
            rintro e w' ⟨rfl, rfl⟩
            go_wp2
            go_roundw
            case rel => exact ⟨k + 1, rowN, stN, L, LN, by omega, by go_num, Lib.hid (.inr ⟨HI.out, HdN.out⟩)⟩
            case measure => simp [intOf]; omega
        · have hevb : (((ys.length : Nat) : Int).tmod 2 == 0) = false := by rw [beq_eq_false_iff_ne, Int.tmod_eq_emod_of_nonneg (Int.natCast_nonneg _)]; omega
          obtain ⟨i0, hi, hz0, hz1, hz2⟩ := info_parts info9
          have Hi := Lib.hid hi
          have Hz0 := Lib.hid hz0
          have Hz1 := Lib.hid hz1
          have Hz2 := Lib.hid hz2
          clear hi hz0 hz1 hz2
          go_wp2_with fail
          refine HD.out.mono ?_
          rintro e w' ⟨rfl, rfl⟩
          go_wp2_with fail
          obtain ⟨y0, yr, rfl⟩ : ∃ y0 yr, ys = y0 :: yr := by
            cases ys with
            | nil => simp at hev
            | cons y0 yr => exact ⟨y0, yr, rfl⟩
          have hu0 := HUK.out y0 (List.mem_cons_self ..)
          obtain ⟨ak, eAk, hca⟩ : ∃ ak, Ak = some ak ∧ w.cell? ak = some (.int .u8 y0) := by
            obtain ⟨ak, e, h⟩ := Kd.at_int HCK.out 0 (by omega) (by simp only [List.length_cons]; omega)
            exact ⟨ak, e, by simpa [rd, Addr.add] using h⟩
          subst eAk
          have hblk0 := World.block_lt_of_cell? w _ hca
          have HCA := Lib.hid (show ∀ w', Below w.heap.size w w' → w'.cell? ak = some (.int .u8 y0) from fun w' hb => (hb.cell hblk0).trans hca)
          have HS := Lib.hid (show ∀ w', Below w.heap.size w w' → (w'.cell? (ad.add k) = some (.slice (some ak) (y0 :: yr).length ck) ∧ w'.cell? ak = some (.int .u8 y0)) from fun w' hb => ⟨HCU.out w' hb, HCA.out w' hb⟩)
          have hd0 : Below w.heap.size w wr.drew := HH.out.below.trans ((Below.refl w.heap.size wr).drew)
          have hd1 : Below w.heap.size w (wr.drew.alloc (.cells #[] 9)) := hd0.alloc hd0.size _
          have hq1 : Below wr.heap.size wr (wr.drew.alloc (.cells #[] 9)) := ((Below.refl wr.heap.size wr).drew).alloc (Nat.le_refl _) _
          have hO1 : OwnLines (wr.drew.alloc (.cells #[] 9)) w.heap.size u14 L := (pw_own_below HH.out.own ((Below.refl wr.heap.size wr).drew.alloc (Nat.le_refl _) _))
          have HOE := Lib.hid (own_empty wr.drew wr.heap.size (Nat.le_refl _))
          clear hca hdn HD HB0
          obtain ⟨A8, c8, rfl⟩ := own_slice hO1
          cases A8 with
          | none =>
            obtain ⟨en, ec, eL⟩ := own_none_nil hO1
            subst ec eL
            have hq3 := hq1
            have hown3' := HOE.out
            go_region_held3 (fun w' => w'.cell? (ad.add k) = some (.slice (some ak) (y0 :: yr).length ck) ∧ w'.cell? ak = some (.int .u8 y0)) (first | exact HS.out _ hd0 | exact HS.out _ hd1 | exact HS.out _ hd4 | exact HS.out _ hd5 | exact HS.out _ hd6) (first | (go_at_call 16; refine (hln.line y0 _ hu0).mono ?_; rintro e w4 ⟨rfl, hb4⟩; have hq4 : Below wr.heap.size wr w4 := hq3.trans (hb4.mono hq3.size); have hq5 : Below wr.heap.size wr (w4.alloc (.cells #[.string (ln y0)] 9)) := hq4.alloc hq4.size _; have hd4 : Below w.heap.size w w4 := HH.out.below.trans (hq4.mono HH.out.below.size); have hd5 : Below w.heap.size w (w4.alloc (.cells #[.string (ln y0)] 9)) := HH.out.below.trans (hq5.mono HH.out.below.size); have hown5 : (w4.alloc (.cells #[.string (ln y0)] 9)).ownsRow wr.heap.size 9 1 (.slice (some ⟨wr.heap.size, 0, none⟩) 0 0) 0 [] := pw_own_below hown3' (hb4.trans ((Below.refl w4.heap.size w4).alloc (Nat.le_refl _) _ |>.mono hb4.size))) | (refine step_append_any _ rfl (.tmp 87) (.tmp 95) 34 rfl wr.heap.size 9 i0 (.string ⟨#[]⟩) 1 16 Tryd.underlying34 Hi.out Hz0.out Hz1.out Hz2.out rfl (by decide) _ _ _ rfl hown5 ⟨w4.heap.size, 0, none⟩ 1 1 [.string (ln y0)] rfl rfl (cell_one_new _ _ _) (by intro u hu; simp at hu; subst hu; rfl) (by unfold maxLen; omega) (by omega) hq5.size ?_; intro v6 w6 hown6 hgr6 hat6; have hq6 : Below wr.heap.size wr w6 := hq5.grown hgr6 hq5.size (fun k e => own_base hown5 k e); have hd6 : Below w.heap.size w w6 := HH.out.below.trans (hq6.mono HH.out.below.size)))
            have hO6 : OwnLines w6 wr.heap.size v6 (([] : List ByteArray) ++ [ln y0]) := by
              unfold OwnLines
              rw [List.length_append, List.map_append]
              simpa using hown6
            have HO6 := Lib.hid hO6
            have HQ6 := Lib.hid hq6
            have HC6 := Lib.hid (HS.out _ hd6)
            clear hown6 hown5 hd0 hd1 hO6 hq3 hown3'
            have hB6 := HH.out.below.trans (HQ6.out.mono HH.out.below.size)
            have k1 := HC6.out.1
            have k2 := HC6.out.2
            go_wp2_with fail
            refine (hln.line y0 _ hu0).mono ?_
            rintro e w7 ⟨rfl, hb7⟩
            have hQ7 := HQ6.out.trans (hb7.mono HQ6.out.size)
            have hB7 := HH.out.below.trans (hQ7.mono HH.out.below.size)
            have hJ7 := HH.out.jat.below hQ7
            have hOL7 := own_move2 HH.out.own (fun q e => hQ7.block q (own_lt HH.out.own q e))
            have hO7 : OwnLines w7 wr.heap.size v6 (([] : List ByteArray) ++ [ln y0]) := pw_own_below HO6.out hb7
            have hAp7 : Apt v6 b g row lv := apt_fresh HH.out.jat (own_bound hO7)
            have hO7w : OwnLines w7 w.heap.size v6 (([] : List ByteArray) ++ [ln y0]) := own_weaken hO7 HH.out.below.size
            have htn := HH.out.turn
            have hrm := HH.out.room
            have hLn := HH.out.len
            have hoy := hln.ok y0 hu0
            have hsz : sizeL [lb (ln y0)] = (ln y0).size + 8 := rfl
            have hjl : j.lines.length ≤ 1000 := by rw [HH.out.lines, List.length_map]; omega
            clear hb7 k1 k2 HC6 HO6 HQ6 hB6 hO7
            go_wp2_with fail
            refine (note_glue w.heap.size b g row lv st j xs _ _ (ln y0) _ (hg.below hB7 h8) h8 hB7.size hJ7 HH.out.has HH.out.mes (by omega) (by omega) (by omega) (by omega) hoy.2 (by rw [hrm, hsz]; omega)).mono ?_
            intro e w9 hL
            obtain ⟨stN, jN, code, rowN, lvN, rfl, hJ4, hR4, hF4, hV4, hO4x, hM4, hr4, _⟩ := hL
            obtain ⟨hO4, hAp4⟩ := held_call hO7w hAp7 hF4 hR4 hV4
            obtain ⟨hOl, hApl⟩ := held_call hOL7 HH.out.apt hF4 hR4 hV4
            have hbN := Below.trans hB7 (Jat.frame hJ7 hB7.size hF4)
            obtain ⟨LN, hLN⟩ : ∃ LN, LN = ([] : List ByteArray) ++ [ln y0] := ⟨_, rfl⟩
            have hlL : LN.length ≤ 12 + (k + 1) := by rw [hLN, List.length_append]; simp only [List.length_singleton, List.length_nil]; omega
            have hLb : j.lines ++ [lb (ln y0)] = LN.map lb := by rw [HH.out.lines, hLN, List.map_append]; rfl
            generalize v6 = vN at *
            have hON : OwnLines w9 w.heap.size vN LN := by rw [hLN]; exact hO4
            have hApN := hAp4
            have hMN : Mes stN ((k + 1) * 700) ((k + 1) * 3) := hM4.mono (by rw [hsz]; omega) (by omega)
            clear hJ7 hO7w hAp7 hB7 hM4 hF4 hR4 hV4 hO4 hAp4 hLN hQ7 hOL7

            cases hO4x with
            | ok h0 xsN hHN hlN htN _ _ =>
              subst h0
              have HI := Lib.hid (show FAl w w9 g b (k + 1) rowN lvN vN vN stN jN xsN LN LN from ⟨hON, hApN, hON, hApN, hJ4, hHN, hMN, by rw [hlN, hLb], hlL, hlL, by omega, by rw [hr4, hrm], hbN⟩)
              clear hJ4 hMN hON hApN hOl hApl hbN
              go_wp2_with fail
              refine (num_any 0 _).mono ?_
              rintro e w' ⟨rfl, rfl⟩
              go_wp2
              go_roundw
              case rel => exact ⟨k + 1, rowN, stN, LN, LN, by omega, by go_num, Lib.hid (.inl ⟨lvN, jN, xsN, HI.out⟩)⟩
              case measure => simp [intOf]; omega
            | fell h0 hD =>
              subst h0
              have hdN := hD.1
              have HI := Lib.hid (show FBs w w9 g rowN (.slice none 0 0) vN stN [] LN from ⟨hJ4.tape, hOl, hON, fun q e => ⟨(hApl q e).2.1, (hApl q e).2.2.1⟩, fun q e => ⟨(hApN q e).2.1, (hApN q e).2.2.1⟩, fun a b c d => by
                  obtain ⟨j1, x1, q1, q2, q3⟩ := hD.2 a b c d
                  exact ⟨j1, x1, q1, q2.imp (fun q => by rw [q, HH.out.lines]) (fun q => by rw [q, hLb]), by omega⟩, hMN.mono (by omega) (by omega), by simp, by omega, hbN⟩)
              have HDN := Lib.hid (down_any w.heap.size g rowN stN w9 hJ4.tape)
              rw [hdN] at HDN
              have HdN := Lib.hid hdN
              clear hJ4 hMN hON hApN hOl hApl hbN hdN hD
              go_wp2_with (go_at_call 13; refine (num_any _ _).mono ?_; rintro e w' ⟨rfl, rfl⟩)
              refine HDN.out.mono ?_
              rintro e w' ⟨rfl, rfl⟩
              go_wp2
              go_roundw
              case rel => exact ⟨k + 1, rowN, stN, [], LN, by omega, by go_num, Lib.hid (.inr ⟨HI.out, HdN.out⟩)⟩
              case measure => simp [intOf]; omega
          | some a8 =>
            have HNW := Lib.hid (own_news hO1).2
            have hLl := HH.out.len
            go_region_held3 (fun w' => w'.cell? (ad.add k) = some (.slice (some ak) (y0 :: yr).length ck) ∧ w'.cell? ak = some (.int .u8 y0)) (first | exact HS.out _ hd0 | exact HS.out _ hd1 | exact HS.out _ hd3 | exact HS.out _ hd4 | exact HS.out _ hd5 | exact HS.out _ hd6) (first | (go_at_call 16; refine (hln.line y0 _ hu0).mono ?_; rintro e w4 ⟨rfl, hb4⟩; have hq4 : Below wr.heap.size wr w4 := hq3.trans (hb4.mono hq3.size); have hq5 : Below wr.heap.size wr (w4.alloc (.cells #[.string (ln y0)] 9)) := hq4.alloc hq4.size _; have hd4 : Below w.heap.size w w4 := HH.out.below.trans (hq4.mono HH.out.below.size); have hd5 : Below w.heap.size w (w4.alloc (.cells #[.string (ln y0)] 9)) := HH.out.below.trans (hq5.mono HH.out.below.size); have hown5 : (w4.alloc (.cells #[.string (ln y0)] 9)).ownsRow wr.heap.size 9 1 v3 L.length (L.map Value.string) := pw_own_below hown3' (hb4.trans ((Below.refl w4.heap.size w4).alloc (Nat.le_refl _) _ |>.mono hb4.size))) | (refine step_append_any _ rfl (.tmp 85) (.tmp 86) 34 rfl wr.heap.size 9 i0 (.string ⟨#[]⟩) 1 16 Tryd.underlying34 Hi.out Hz0.out Hz1.out Hz2.out rfl (by decide) _ _ _ rfl HOE.out a8 L.length c8 (L.map Value.string) rfl (by simp) HNW.out (by intro u hu; simp at hu; obtain ⟨y, _, rfl⟩ := hu; rfl) (by unfold maxLen; omega) (by omega) (by simp) ?_; intro v3 w3 hown3 hgr3 hat3; have hown3' : w3.ownsRow wr.heap.size 9 1 v3 L.length (L.map Value.string) := (by simpa using hown3); have hq3 : Below wr.heap.size wr w3 := hq1.grown (show World.grownBy _ w3 (some wr.heap.size) from hgr3) hq1.size (fun k e => by cases e; exact Nat.le_refl _); have hd3 : Below w.heap.size w w3 := HH.out.below.trans (hq3.mono HH.out.below.size)) | (refine step_append_any _ rfl (.tmp 87) (.tmp 95) 34 rfl wr.heap.size 9 i0 (.string ⟨#[]⟩) 1 16 Tryd.underlying34 Hi.out Hz0.out Hz1.out Hz2.out rfl (by decide) _ _ _ rfl hown5 ⟨w4.heap.size, 0, none⟩ 1 1 [.string (ln y0)] rfl rfl (cell_one_new _ _ _) (by intro u hu; simp at hu; subst hu; rfl) (by unfold maxLen; omega) (by omega) hq5.size ?_; intro v6 w6 hown6 hgr6 hat6; have hq6 : Below wr.heap.size wr w6 := hq5.grown hgr6 hq5.size (fun k e => own_base hown5 k e); have hd6 : Below w.heap.size w w6 := HH.out.below.trans (hq6.mono HH.out.below.size)))
            have hO6 : OwnLines w6 wr.heap.size v6 (L ++ [ln y0]) := by
              unfold OwnLines
              rw [List.length_append, List.map_append]
              simpa using hown6
            have HO6 := Lib.hid hO6
            have HQ6 := Lib.hid hq6
            have HC6 := Lib.hid (HS.out _ hd6)
            clear hown6 hown5 hd0 hd1 hO6 hown3 hown3' hgr3 hat3 hq3 hd3
            have hB6 := HH.out.below.trans (HQ6.out.mono HH.out.below.size)
            have k1 := HC6.out.1
            have k2 := HC6.out.2
            go_wp2_with fail
            refine (hln.line y0 _ hu0).mono ?_
            rintro e w7 ⟨rfl, hb7⟩
            have hQ7 := HQ6.out.trans (hb7.mono HQ6.out.size)
            have hB7 := HH.out.below.trans (hQ7.mono HH.out.below.size)
            have hJ7 := HH.out.jat.below hQ7
            have hOL7 := own_move2 HH.out.own (fun q e => hQ7.block q (own_lt HH.out.own q e))
            have hO7 : OwnLines w7 wr.heap.size v6 (L ++ [ln y0]) := pw_own_below HO6.out hb7
            have hAp7 : Apt v6 b g row lv := apt_fresh HH.out.jat (own_bound hO7)
            have hO7w : OwnLines w7 w.heap.size v6 (L ++ [ln y0]) := own_weaken hO7 HH.out.below.size
            have htn := HH.out.turn
            have hrm := HH.out.room
            have hLn := HH.out.len
            have hoy := hln.ok y0 hu0
            have hsz : sizeL [lb (ln y0)] = (ln y0).size + 8 := rfl
            have hjl : j.lines.length ≤ 1000 := by rw [HH.out.lines, List.length_map]; omega
            clear hb7 k1 k2 HC6 HO6 HQ6 hB6 hO7
            go_wp2_with fail
            refine (note_glue w.heap.size b g row lv st j xs _ _ (ln y0) _ (hg.below hB7 h8) h8 hB7.size hJ7 HH.out.has HH.out.mes (by omega) (by omega) (by omega) (by omega) hoy.2 (by rw [hrm, hsz]; omega)).mono ?_
            intro e w9 hL
            obtain ⟨stN, jN, code, rowN, lvN, rfl, hJ4, hR4, hF4, hV4, hO4x, hM4, hr4, _⟩ := hL
            obtain ⟨hO4, hAp4⟩ := held_call hO7w hAp7 hF4 hR4 hV4
            obtain ⟨hOl, hApl⟩ := held_call hOL7 HH.out.apt hF4 hR4 hV4
            have hbN := Below.trans hB7 (Jat.frame hJ7 hB7.size hF4)
            obtain ⟨LN, hLN⟩ : ∃ LN, LN = L ++ [ln y0] := ⟨_, rfl⟩
            have hlL : LN.length ≤ 12 + (k + 1) := by rw [hLN, List.length_append]; simp only [List.length_singleton]; omega
            have hLb : j.lines ++ [lb (ln y0)] = LN.map lb := by rw [HH.out.lines, hLN, List.map_append]; rfl
            generalize v6 = vN at *
            have hON : OwnLines w9 w.heap.size vN LN := by rw [hLN]; exact hO4
            have hApN := hAp4
            have hMN : Mes stN ((k + 1) * 700) ((k + 1) * 3) := hM4.mono (by rw [hsz]; omega) (by omega)
            clear hJ7 hO7w hAp7 hB7 hM4 hF4 hR4 hV4 hO4 hAp4 hLN hQ7 hOL7

            cases hO4x with
            | ok h0 xsN hHN hlN htN _ _ =>
              subst h0
              have HI := Lib.hid (show FAl w w9 g b (k + 1) rowN lvN vN vN stN jN xsN LN LN from ⟨hON, hApN, hON, hApN, hJ4, hHN, hMN, by rw [hlN, hLb], hlL, hlL, by omega, by rw [hr4, hrm], hbN⟩)
              clear hJ4 hMN hON hApN hOl hApl hbN
              go_wp2_with fail
              refine (num_any 0 _).mono ?_
              rintro e w' ⟨rfl, rfl⟩
              go_wp2
              go_roundw
              case rel => exact ⟨k + 1, rowN, stN, LN, LN, by omega, by go_num, Lib.hid (.inl ⟨lvN, jN, xsN, HI.out⟩)⟩
              case measure => simp [intOf]; omega
            | fell h0 hD =>
              subst h0
              have hdN := hD.1
              have HI := Lib.hid (show FBs w w9 g rowN (.slice (some a8) L.length c8) vN stN L LN from ⟨hJ4.tape, hOl, hON, fun q e => ⟨(hApl q e).2.1, (hApl q e).2.2.1⟩, fun q e => ⟨(hApN q e).2.1, (hApN q e).2.2.1⟩, fun a b c d => by
                  obtain ⟨j1, x1, q1, q2, q3⟩ := hD.2 a b c d
                  exact ⟨j1, x1, q1, q2.imp (fun q => by rw [q, HH.out.lines]) (fun q => by rw [q, hLb]), by omega⟩, hMN.mono (by omega) (by omega), by have := HH.out.len; omega, by omega, hbN⟩)
              have HDN := Lib.hid (down_any w.heap.size g rowN stN w9 hJ4.tape)
              rw [hdN] at HDN
              have HdN := Lib.hid hdN
              clear hJ4 hMN hON hApN hOl hApl hbN hdN hD
              go_wp2_with (go_at_call 13; refine (num_any _ _).mono ?_; rintro e w' ⟨rfl, rfl⟩)
              refine HDN.out.mono ?_
              rintro e w' ⟨rfl, rfl⟩
              go_wp2
              go_roundw
              case rel => exact ⟨k + 1, rowN, stN, L, LN, by omega, by go_num, Lib.hid (.inr ⟨HI.out, HdN.out⟩)⟩
              case measure => simp [intOf]; omega
    · obtain rfl : k = xss.length := by omega
      clear HHH

      go_wp2
      go_loopw [17] (fun i wr => ∃ (q : Nat) (row : Option Nat) (st : TapeSt), q ≤ fs.length ∧ i = .int .i64 q ∧ Hid (FBs w wr g row u14 u15 st L M)) (fun i _ => fs.length - (intOf i).toNat)
      case atStart => exact ⟨0, row, st, by omega, rfl, HB0⟩
      case round =>
        obtain ⟨q, rowq, stq, hq, rfl, HB⟩ := hrel
        by_cases hltq : q < fs.length
        · obtain ⟨fd, eB, hcf⟩ := Kd.at_int HFW.out (q : Int) (by omega) (by omega)
          cases eB
          have hfb := World.block_lt_of_cell? w _ hcf
          have cf := (HB.out.below.cell hfb).trans hcf
          have hq0 : (0 : Int) ≤ (q : Int) := by omega
          rw [show ((q : Int)).toNat = q from rfl] at cf hcf hfb
          go_wp2_with fail
          clear cf hcf hfb
          refine (fall_glue w.heap.size g rowq stq 9000 50 262144 _ keep torn _ HB.out.tape HB.out.mes (by decide) (by decide)).mono ?_
          rintro e w3 ⟨rfl, row3, hT3, hR3, hF3, _⟩
          obtain ⟨st3, hB3, hr3, j3, xs3, hH3, hl3, ht3⟩ : ∃ st3, FBs w w3 g row3 u14 u15 st3 L M ∧ st3.room = 262144 ∧ ∃ j3 xs3, Has st3 j3 xs3 ∧ (j3.lines = L.map lb ∨ j3.lines = M.map lb) ∧ j3.turn ≤ 40 := ⟨_, FBs.fell HB.out _ _ _ _ hT3 hR3 hF3, rfl, HB.out.pf _ _ _ _⟩
          clear hT3 hR3 hF3 HB
          go_wp2_with fail
          refine (open_glue w.heap.size g row3 st3 j3 xs3 9000 50 _ (hg.below hB3.below h8) hB3.below.size hB3.tape hH3 hB3.mes (by decide) (by decide)).mono ?_
          rintro e w4 ⟨lv4, rfl, hJ4, hb4, _⟩
          have hB4 := hB3.on hb4
          have HJ4 := Lib.hid hJ4
          have HB4 := Lib.hid hB4
          have hNN : j3.lines.map bs = L ∨ j3.lines.map bs = M := by
            rcases hl3 with q | q
            · exact .inl (by rw [q, map_bs_lb])
            · exact .inr (by rw [q, map_bs_lb])
          have hLn := hB4.len
          have hMn := hB4.lenM
          have hNn : (j3.lines.map bs).length ≤ 30 := by rcases hNN with q | q <;> rw [q] <;> assumption
          have hNl : j3.lines.length ≤ 30 := by rw [List.length_map] at hNn; exact hNn
          clear hb4 hJ4 hB4 hB3 hl3
          generalize w3.heap.size = b4 at *
          go_wp2_with (go_at_call 13; refine (num_any _ _).mono ?_; rintro e w' ⟨rfl, rfl⟩)
          refine (lines_glue HJ4.out (by omega)).mono ?_
          rintro e w5 ⟨v5, rfl, hO5, hb5⟩
          have hB5 := HB4.out.on hb5
          have hb45 := hb5
          by_cases hNL : j3.lines.map bs = L
          · have HT5 := Lib.hid (texts_on hO5 hB5.own (by omega) true (decide_eq_true hNL))
            have HB5 := Lib.hid hB5
            clear hO5 hb5 hB5 hb45
            go_wp2_with fail
            refine (HT5.out _ (Below.refl _ _)).mono ?_
            rintro e w6 ⟨rfl, hb6⟩
            have HB6 := Lib.hid (HB5.out.on hb6)
            clear hb6 HT5 HB5 HJ4 HB4
            go_wp2
            go_roundw
            case rel => exact ⟨q + 1, row3, st3, by omega, by go_num, HB6⟩
            case measure => simp [intOf]; omega
          · have hNM : j3.lines.map bs = M := hNN.resolve_left hNL
            have HT5 := Lib.hid (texts_on hO5 hB5.own (by omega) false (decide_eq_false hNL))
            have HB5 := Lib.hid hB5
            have HJ5 := Lib.hid (HJ4.out.below hb5)
            clear hO5 hb5 hB5 hb45
            go_wp2_with fail
            refine (HT5.out _ (Below.refl _ _)).mono ?_
            rintro e w6 ⟨rfl, hb6⟩
            have HB6 := Lib.hid (HB5.out.on hb6)
            have hJ6 := HJ5.out.below hb6
            clear hb6 HT5 HB5 HJ4 HB4 HJ5
            go_wp2_with fail
            refine (lines_glue hJ6 (by omega)).mono ?_
            rintro e w7 ⟨v7, rfl, hO7, hb7⟩
            have HT7 := Lib.hid (texts_on hO7 (HB6.out.on hb7).ownM (by omega) true (decide_eq_true hNM))
            have HB7 := Lib.hid (HB6.out.on hb7)
            clear hO7 hb7 HB6 hJ6
            go_wp2_with fail
            refine (HT7.out _ (Below.refl _ _)).mono ?_
            rintro e w8 ⟨rfl, hb8⟩
            have HB8 := Lib.hid (HB7.out.on hb8)
            clear hb8 HT7 HB7
            go_wp2
            go_roundw
            case rel => exact ⟨q + 1, row3, st3, by omega, by go_num, HB8⟩
            case measure => simp [intOf]; omega
        · obtain rfl : q = fs.length := by omega
          go_wp2_with fail
          refine (fall_glue w.heap.size g rowq stq 9000 50 262144 _ keep torn _ HB.out.tape HB.out.mes (by decide) (by decide)).mono ?_
          rintro e w3 ⟨rfl, row3, hT3, hR3, hF3, _⟩
          obtain ⟨st3, hB3, hr3, hc3, j3, xs3, hH3, hl3, ht3⟩ : ∃ st3, FBs w w3 g row3 u14 u15 st3 L M ∧ st3.room = 262144 ∧ st3.crash = 0 ∧ ∃ j3 xs3, Has st3 j3 xs3 ∧ (j3.lines = L.map lb ∨ j3.lines = M.map lb) ∧ j3.turn ≤ 40 := ⟨_, FBs.fell HB.out _ _ _ _ hT3 hR3 hF3, rfl, rfl, HB.out.pf _ _ _ _⟩
          clear hT3 hR3 hF3 HB
          go_wp2_with fail
          refine (open_glue w.heap.size g row3 st3 j3 xs3 9000 50 _ (hg.below hB3.below h8) hB3.below.size hB3.tape hH3 hB3.mes (by decide) (by decide)).mono ?_
          rintro e w4 ⟨lv4, rfl, hJ4, hb4, _⟩
          have hB4 := hB3.on hb4
          have HJ4 := Lib.hid hJ4
          have HB4 := Lib.hid hB4
          have hNN : j3.lines.map bs = L ∨ j3.lines.map bs = M := by
            rcases hl3 with q | q
            · exact .inl (by rw [q, map_bs_lb])
            · exact .inr (by rw [q, map_bs_lb])
          have hLn := hB4.len
          have hMn := hB4.lenM
          have hNn : (j3.lines.map bs).length ≤ 30 := by rcases hNN with q | q <;> rw [q] <;> assumption
          have hNl : j3.lines.length ≤ 30 := by rw [List.length_map] at hNn; exact hNn
          clear hb4 hJ4 hB4 hB3 hl3
          generalize w3.heap.size = b4 at *
          go_wp2_with (go_at_call 13; refine (num_any _ _).mono ?_; rintro e w' ⟨rfl, rfl⟩)
          refine (lines_glue HJ4.out (by omega)).mono ?_
          rintro e w5 ⟨v5, rfl, hO5, hb5⟩
          have hB5 := HB4.out.on hb5
          have hb45 := hb5
          have HW5 : Below w4.heap.size w4 w5 := hb45
          by_cases hNL : j3.lines.map bs = L
          · have HT5 := Lib.hid (texts_on hO5 hB5.own (by omega) true (decide_eq_true hNL))
            clear hO5 hb5 hB5 hb45
            go_wp2_with fail
            refine (HT5.out _ (Below.refl _ _)).mono ?_
            rintro e wn ⟨rfl, hbn⟩
            have HN := Lib.hid (HW5.trans (hbn.mono HW5.size))
            clear hbn HT5 HW5
            have hW := HB4.out.below.trans (HN.out.mono HB4.out.below.size)
            have HJn := Lib.hid (HJ4.out.below HN.out)
            have HW := Lib.hid hW
            have hturn := ht3
            have HM := Lib.hid HB4.out.mes
            clear hW HN HB4 HJ4 hNN
            try clear hNM
            try clear hNL
            go_wp2_with fail
            have hE1 := own_empty wn wn.heap.size (Nat.le_refl _)
            have hAE : Below wn.heap.size wn (wn.alloc (.cells #[] 9)) := (Below.refl wn.heap.size wn).alloc (Nat.le_refl _) _
            refine (lines_glue (HJn.out.below hAE) (by omega)).mono ?_
            rintro e wl ⟨vl, rfl, hOl, hbl⟩
            have hAl := hAE.trans (hbl.mono hAE.size)
            have HEl := Lib.hid (pw_own_below hE1 hbl)
            generalize hNNg : j3.lines.map bs = NN at *
            have HNNg := Lib.hid hNNg
            clear hNNg
            obtain ⟨Al, cl, rfl⟩ := own_slice hOl
            obtain ⟨i0, hi, hz0, hz1, hz2⟩ := info_parts info9
            have Hi := Lib.hid hi
            have Hz0 := Lib.hid hz0
            have Hz1 := Lib.hid hz1
            have Hz2 := Lib.hid hz2
            have HAl := Lib.hid hAl
            clear hi hz0 hz1 hz2 hE1 hAE hbl hAl
            have hsl : wn.heap.size ≤ wl.heap.size := HAl.out.size
            cases Al with
            | none =>
              obtain ⟨e1, e2, e3⟩ := own_none_nil hOl
              subst e2 e3
              have HC := HEl
              clear hOl
              go_wp2_with (at_builtin; refine wpList_append_own_at _ rfl (.tmp 222) (.tmp 223) 34 rfl wn.heap.size 9 i0 (.string ⟨#[]⟩) 1 16 Tryd.underlying34 Hi.out Hz0.out Hz1.out Hz2.out rfl (by decide) _ 0 [] rfl (World.ownsRow.alloc HC.out _) ⟨wl.heap.size, 0, none⟩ 1 1 [.string moreB] rfl rfl (cell_one_new _ _ _) (by intro u hu; simp at hu; subst hu; rfl) (by decide) (by decide) (by simp; omega) ?_; intro vm wm hownm hgrm _ hatm; have HOM := Lib.hid hownm; have HGM := Lib.hid hgrm; clear hownm hgrm hatm)
              have hOM : OwnLines wm wn.heap.size vm (([] : List ByteArray) ++ [moreB]) := by
                unfold OwnLines
                rw [List.length_append, List.map_append]
                exact HOM.out
              have hQM : Below wn.heap.size wn wm := (HAl.out.alloc HAl.out.size _).grown (show World.grownBy _ wm (some wn.heap.size) from HGM.out) (by simp; omega) (fun k e => by cases e; exact Nat.le_refl _)
              have hJm := HJn.out.below hQM
              have hBm := HW.out.trans (hQM.mono HW.out.size)
              have hApm : Apt vm b4 g row3 lv4 := apt_fresh HJn.out (own_bound hOM)
              have hMm := HM.out
              clear HOM HGM hQM HJn HW HM HEl HC
              refine (note_glue w.heap.size b4 g row3 lv4 st3 j3 xs3 9000 50 moreB _ (hg.below hBm h8) h8 hBm.size hJm hH3 hMm (by decide) (by omega) (by omega) (by omega) (by decide) (by rw [hr3]; decide)).mono ?_
              intro e w5 hL
              obtain ⟨st5, j5, xs5, row5, lv5, rfl, hJ5, hH5, hM5, hr5, hc5, hl5, ht5, hb5, hF5, hR5, hV5⟩ := hL.calm hc3 hJm hBm.size
              obtain ⟨hO5, hAp5⟩ := held_call hOM hApm hF5 hR5 hV5
              have hB5 := hBm.trans hb5
              have hT5 := hJ5.tape
              clear hL hOM hJm hBm hApm hMm hb5 hF5 hR5 hV5 hJ5 hH3
              go_wp2_with fail
              refine (fall_glue w.heap.size g row5 st5 _ _ 262144 0 0 0 _ hT5 hM5 (by decide) (by decide)).mono ?_
              rintro e w6 ⟨rfl, row6, hT6, _, hF6, hM6⟩
              have hO6 : OwnLines w6 wn.heap.size vm (([] : List ByteArray) ++ [moreB]) := own_move2 hO5 fun q e => hF6.block q (own_lt hO5 q e) (hAp5 q e).2.1 (fun e2 => (hAp5 q e).2.2.1 e2.symm)
              have hB6 := hB5.trans (fr_below hT5 hB5.size hF6)
              have hH6 := hH5.fall 262144 0 0 0
              generalize fallF st5 262144 0 0 0 = st6 at *
              clear hT5 hO5 hAp5 hF6 hB5 hH5 hM5
              go_wp2_with fail
              refine (open_glue w.heap.size g row6 st6 j5 xs5 _ _ _ (hg.below hB6 h8) hB6.size hT6 hH6 hM6 (by decide) (by decide)).mono ?_
              rintro e w7 ⟨lv7, rfl, hJ7, hb7, _⟩
              have hO7 : OwnLines w7 wn.heap.size vm (([] : List ByteArray) ++ [moreB]) := pw_own_below hO6 hb7
              have hB7 := hB6.trans (hb7.mono hB6.size)
              generalize w6.heap.size = b7 at *
              clear hT6 hO6 hB6 hb7 hM6 hH6
              have hl5b : j5.lines.map bs = ([] : List ByteArray) ++ [moreB] := by
                rw [hl5, List.map_append, HNNg.out]
                simp only [List.map_cons, List.map_nil, bs_lb]
              go_wp2_with (go_at_call 13; refine (num_any _ _).mono ?_; rintro e w' ⟨rfl, rfl⟩)
              refine (lines_glue hJ7 (by rw [hl5, List.length_append]; simp only [List.length_singleton]; omega)).mono ?_
              rintro e w8 ⟨v8, rfl, hO8, hb8⟩
              rw [hl5b] at hO8
              have HT8 := Lib.hid (texts_on hO8 (show OwnLines w8 wn.heap.size vm (([] : List ByteArray) ++ [moreB]) from pw_own_below hO7 hb8) (by rw [List.length_append]; simp only [List.length_singleton, List.length_nil]; omega) true (decide_eq_true rfl))
              have HB8 := Lib.hid (hB7.trans (hb8.mono hB7.size))
              clear hO8 hO7 hb8 hB7 hJ7
              go_wp2_with fail
              refine (HT8.out _ (Below.refl _ _)).mono ?_
              rintro e w9 ⟨rfl, hb9⟩
              have hB9 := HB8.out.trans (hb9.mono HB8.out.size)
              clear hb9 HT8 HB8
              go_wp2_with fail
              refine (DONE.out _ hB9).mono ?_
              rintro e wz ⟨rfl, hbz⟩
              go_wp2
              go_ret
              exact ⟨rfl, hbz⟩
            | some al =>
              have HNW := Lib.hid (own_news hOl).2
              clear hOl
              go_wp2_with (first | (at_builtin; refine wpList_append_own_at _ rfl (.tmp 219) (.tmp 221) 34 rfl wn.heap.size 9 i0 (.string ⟨#[]⟩) 1 16 Tryd.underlying34 Hi.out Hz0.out Hz1.out Hz2.out rfl (by decide) _ 0 [] rfl HEl.out al NN.length cl (NN.map Value.string) rfl (by simp) HNW.out (by intro u hu; simp at hu; obtain ⟨y, _, rfl⟩ := hu; rfl) (by unfold maxLen; omega) (by omega) hsl ?_; intro vk wk hownk hgrk _ hatk; have hqk : Below wn.heap.size wn wk := HAl.out.grown (show World.grownBy _ wk (some wn.heap.size) from hgrk) HAl.out.size (fun k e => by cases e; exact Nat.le_refl _); have hownk2 : wk.ownsRow wn.heap.size 9 1 vk NN.length (NN.map Value.string) := (by simpa using hownk); have hownk3 := World.ownsRow.alloc hownk2 (.cells #[.string moreB] 9); have HOK := Lib.hid hownk3; have HQK := Lib.hid hqk; have hsk := hqk.size; clear hownk hgrk hatk hownk2 hownk3 hqk) | (at_builtin; refine wpList_append_own_at _ rfl (.tmp 222) (.tmp 223) 34 rfl wn.heap.size 9 i0 (.string ⟨#[]⟩) 1 16 Tryd.underlying34 Hi.out Hz0.out Hz1.out Hz2.out rfl (by decide) _ NN.length (NN.map Value.string) rfl HOK.out ⟨wk.heap.size, 0, none⟩ 1 1 [.string moreB] rfl rfl (cell_one_new _ _ _) (by intro u hu; simp at hu; subst hu; rfl) (by unfold maxLen; omega) (by omega) (by simp; omega) ?_; intro vm wm hownm hgrm _ hatm; have HOM := Lib.hid hownm; have HGM := Lib.hid hgrm; clear hownm hgrm hatm))
              have hOM : OwnLines wm wn.heap.size vm (NN ++ [moreB]) := by
                unfold OwnLines
                rw [List.length_append, List.map_append]
                exact HOM.out
              have hQM : Below wn.heap.size wn wm := (HQK.out.alloc HQK.out.size _).grown (show World.grownBy _ wm vk.ownBlock from HGM.out) (by simp; omega) (fun k e => own_base HOK.out k e)
              have hJm := HJn.out.below hQM
              have hBm := HW.out.trans (hQM.mono HW.out.size)
              have hApm : Apt vm b4 g row3 lv4 := apt_fresh HJn.out (own_bound hOM)
              have hMm := HM.out
              clear HOM HGM hQM HJn HW HM HEl HNW HOK HQK
              refine (note_glue w.heap.size b4 g row3 lv4 st3 j3 xs3 9000 50 moreB _ (hg.below hBm h8) h8 hBm.size hJm hH3 hMm (by decide) (by omega) (by omega) (by omega) (by decide) (by rw [hr3]; decide)).mono ?_
              intro e w5 hL
              obtain ⟨st5, j5, xs5, row5, lv5, rfl, hJ5, hH5, hM5, hr5, hc5, hl5, ht5, hb5, hF5, hR5, hV5⟩ := hL.calm hc3 hJm hBm.size
              obtain ⟨hO5, hAp5⟩ := held_call hOM hApm hF5 hR5 hV5
              have hB5 := hBm.trans hb5
              have hT5 := hJ5.tape
              clear hL hOM hJm hBm hApm hMm hb5 hF5 hR5 hV5 hJ5 hH3
              go_wp2_with fail
              refine (fall_glue w.heap.size g row5 st5 _ _ 262144 0 0 0 _ hT5 hM5 (by decide) (by decide)).mono ?_
              rintro e w6 ⟨rfl, row6, hT6, _, hF6, hM6⟩
              have hO6 : OwnLines w6 wn.heap.size vm (NN ++ [moreB]) := own_move2 hO5 fun q e => hF6.block q (own_lt hO5 q e) (hAp5 q e).2.1 (fun e2 => (hAp5 q e).2.2.1 e2.symm)
              have hB6 := hB5.trans (fr_below hT5 hB5.size hF6)
              have hH6 := hH5.fall 262144 0 0 0
              generalize fallF st5 262144 0 0 0 = st6 at *
              clear hT5 hO5 hAp5 hF6 hB5 hH5 hM5
              go_wp2_with fail
              refine (open_glue w.heap.size g row6 st6 j5 xs5 _ _ _ (hg.below hB6 h8) hB6.size hT6 hH6 hM6 (by decide) (by decide)).mono ?_
              rintro e w7 ⟨lv7, rfl, hJ7, hb7, _⟩
              have hO7 : OwnLines w7 wn.heap.size vm (NN ++ [moreB]) := pw_own_below hO6 hb7
              have hB7 := hB6.trans (hb7.mono hB6.size)
              generalize w6.heap.size = b7 at *
              clear hT6 hO6 hB6 hb7 hM6 hH6
              have hl5b : j5.lines.map bs = NN ++ [moreB] := by
                rw [hl5, List.map_append, HNNg.out]
                simp only [List.map_cons, List.map_nil, bs_lb]
              go_wp2_with (go_at_call 13; refine (num_any _ _).mono ?_; rintro e w' ⟨rfl, rfl⟩)
              refine (lines_glue hJ7 (by rw [hl5, List.length_append]; simp only [List.length_singleton]; omega)).mono ?_
              rintro e w8 ⟨v8, rfl, hO8, hb8⟩
              rw [hl5b] at hO8
              have HT8 := Lib.hid (texts_on hO8 (show OwnLines w8 wn.heap.size vm (NN ++ [moreB]) from pw_own_below hO7 hb8) (by rw [List.length_append]; simp only [List.length_singleton]; omega) true (decide_eq_true rfl))
              have HB8 := Lib.hid (hB7.trans (hb8.mono hB7.size))
              clear hO8 hO7 hb8 hB7 hJ7
              go_wp2_with fail
              refine (HT8.out _ (Below.refl _ _)).mono ?_
              rintro e w9 ⟨rfl, hb9⟩
              have hB9 := HB8.out.trans (hb9.mono HB8.out.size)
              clear hb9 HT8 HB8
              go_wp2_with fail
              refine (DONE.out _ hB9).mono ?_
              rintro e wz ⟨rfl, hbz⟩
              go_wp2
              go_ret
              exact ⟨rfl, hbz⟩
          · have hNM : j3.lines.map bs = M := hNN.resolve_left hNL
            have HT5 := Lib.hid (texts_on hO5 hB5.own (by omega) false (decide_eq_false hNL))
            have HJ5 := Lib.hid (HJ4.out.below hb5)
            have HB5 := Lib.hid hB5
            clear hO5 hb5 hB5 hb45
            go_wp2_with fail
            refine (HT5.out _ (Below.refl _ _)).mono ?_
            rintro e w6 ⟨rfl, hb6⟩
            have HB6 := Lib.hid (HB5.out.on hb6)
            have hJ6 := HJ5.out.below hb6
            have HW6 := HW5.trans (hb6.mono HW5.size)
            clear hb6 HT5 HB5 HJ5 HW5
            go_wp2_with fail
            refine (lines_glue hJ6 (by omega)).mono ?_
            rintro e w7 ⟨v7, rfl, hO7, hb7⟩
            have HT7 := Lib.hid (texts_on hO7 (HB6.out.on hb7).ownM (by omega) true (decide_eq_true hNM))
            have HW7 := HW6.trans (hb7.mono HW6.size)
            clear hO7 hb7 HB6 hJ6 HW6
            go_wp2_with fail
            refine (HT7.out _ (Below.refl _ _)).mono ?_
            rintro e wn ⟨rfl, hbn⟩
            have HN := Lib.hid (HW7.trans (hbn.mono HW7.size))
            clear hbn HT7 HW7
            have hW := HB4.out.below.trans (HN.out.mono HB4.out.below.size)
            have HJn := Lib.hid (HJ4.out.below HN.out)
            have HW := Lib.hid hW
            have hturn := ht3
            have HM := Lib.hid HB4.out.mes
            clear hW HN HB4 HJ4 hNN
            try clear hNM
            try clear hNL
            go_wp2_with fail
            have hE1 := own_empty wn wn.heap.size (Nat.le_refl _)
            have hAE : Below wn.heap.size wn (wn.alloc (.cells #[] 9)) := (Below.refl wn.heap.size wn).alloc (Nat.le_refl _) _
            refine (lines_glue (HJn.out.below hAE) (by omega)).mono ?_
            rintro e wl ⟨vl, rfl, hOl, hbl⟩
            have hAl := hAE.trans (hbl.mono hAE.size)
            have HEl := Lib.hid (pw_own_below hE1 hbl)
            generalize hNNg : j3.lines.map bs = NN at *
            have HNNg := Lib.hid hNNg
            clear hNNg
            obtain ⟨Al, cl, rfl⟩ := own_slice hOl
            obtain ⟨i0, hi, hz0, hz1, hz2⟩ := info_parts info9
            have Hi := Lib.hid hi
            have Hz0 := Lib.hid hz0
            have Hz1 := Lib.hid hz1
            have Hz2 := Lib.hid hz2
            have HAl := Lib.hid hAl
            clear hi hz0 hz1 hz2 hE1 hAE hbl hAl
            have hsl : wn.heap.size ≤ wl.heap.size := HAl.out.size
            cases Al with
            | none =>
              obtain ⟨e1, e2, e3⟩ := own_none_nil hOl
              subst e2 e3
              have HC := HEl
              clear hOl
              go_wp2_with (at_builtin; refine wpList_append_own_at _ rfl (.tmp 222) (.tmp 223) 34 rfl wn.heap.size 9 i0 (.string ⟨#[]⟩) 1 16 Tryd.underlying34 Hi.out Hz0.out Hz1.out Hz2.out rfl (by decide) _ 0 [] rfl (World.ownsRow.alloc HC.out _) ⟨wl.heap.size, 0, none⟩ 1 1 [.string moreB] rfl rfl (cell_one_new _ _ _) (by intro u hu; simp at hu; subst hu; rfl) (by decide) (by decide) (by simp; omega) ?_; intro vm wm hownm hgrm _ hatm; have HOM := Lib.hid hownm; have HGM := Lib.hid hgrm; clear hownm hgrm hatm)
              have hOM : OwnLines wm wn.heap.size vm (([] : List ByteArray) ++ [moreB]) := by
                unfold OwnLines
                rw [List.length_append, List.map_append]
                exact HOM.out
              have hQM : Below wn.heap.size wn wm := (HAl.out.alloc HAl.out.size _).grown (show World.grownBy _ wm (some wn.heap.size) from HGM.out) (by simp; omega) (fun k e => by cases e; exact Nat.le_refl _)
              have hJm := HJn.out.below hQM
              have hBm := HW.out.trans (hQM.mono HW.out.size)
              have hApm : Apt vm b4 g row3 lv4 := apt_fresh HJn.out (own_bound hOM)
              have hMm := HM.out
              clear HOM HGM hQM HJn HW HM HEl HC
              refine (note_glue w.heap.size b4 g row3 lv4 st3 j3 xs3 9000 50 moreB _ (hg.below hBm h8) h8 hBm.size hJm hH3 hMm (by decide) (by omega) (by omega) (by omega) (by decide) (by rw [hr3]; decide)).mono ?_
              intro e w5 hL
              obtain ⟨st5, j5, xs5, row5, lv5, rfl, hJ5, hH5, hM5, hr5, hc5, hl5, ht5, hb5, hF5, hR5, hV5⟩ := hL.calm hc3 hJm hBm.size
              obtain ⟨hO5, hAp5⟩ := held_call hOM hApm hF5 hR5 hV5
              have hB5 := hBm.trans hb5
              have hT5 := hJ5.tape
              clear hL hOM hJm hBm hApm hMm hb5 hF5 hR5 hV5 hJ5 hH3
              go_wp2_with fail
              refine (fall_glue w.heap.size g row5 st5 _ _ 262144 0 0 0 _ hT5 hM5 (by decide) (by decide)).mono ?_
              rintro e w6 ⟨rfl, row6, hT6, _, hF6, hM6⟩
              have hO6 : OwnLines w6 wn.heap.size vm (([] : List ByteArray) ++ [moreB]) := own_move2 hO5 fun q e => hF6.block q (own_lt hO5 q e) (hAp5 q e).2.1 (fun e2 => (hAp5 q e).2.2.1 e2.symm)
              have hB6 := hB5.trans (fr_below hT5 hB5.size hF6)
              have hH6 := hH5.fall 262144 0 0 0
              generalize fallF st5 262144 0 0 0 = st6 at *
              clear hT5 hO5 hAp5 hF6 hB5 hH5 hM5
              go_wp2_with fail
              refine (open_glue w.heap.size g row6 st6 j5 xs5 _ _ _ (hg.below hB6 h8) hB6.size hT6 hH6 hM6 (by decide) (by decide)).mono ?_
              rintro e w7 ⟨lv7, rfl, hJ7, hb7, _⟩
              have hO7 : OwnLines w7 wn.heap.size vm (([] : List ByteArray) ++ [moreB]) := pw_own_below hO6 hb7
              have hB7 := hB6.trans (hb7.mono hB6.size)
              generalize w6.heap.size = b7 at *
              clear hT6 hO6 hB6 hb7 hM6 hH6
              have hl5b : j5.lines.map bs = ([] : List ByteArray) ++ [moreB] := by
                rw [hl5, List.map_append, HNNg.out]
                simp only [List.map_cons, List.map_nil, bs_lb]
              go_wp2_with (go_at_call 13; refine (num_any _ _).mono ?_; rintro e w' ⟨rfl, rfl⟩)
              refine (lines_glue hJ7 (by rw [hl5, List.length_append]; simp only [List.length_singleton]; omega)).mono ?_
              rintro e w8 ⟨v8, rfl, hO8, hb8⟩
              rw [hl5b] at hO8
              have HT8 := Lib.hid (texts_on hO8 (show OwnLines w8 wn.heap.size vm (([] : List ByteArray) ++ [moreB]) from pw_own_below hO7 hb8) (by rw [List.length_append]; simp only [List.length_singleton, List.length_nil]; omega) true (decide_eq_true rfl))
              have HB8 := Lib.hid (hB7.trans (hb8.mono hB7.size))
              clear hO8 hO7 hb8 hB7 hJ7
              go_wp2_with fail
              refine (HT8.out _ (Below.refl _ _)).mono ?_
              rintro e w9 ⟨rfl, hb9⟩
              have hB9 := HB8.out.trans (hb9.mono HB8.out.size)
              clear hb9 HT8 HB8
              go_wp2_with fail
              refine (DONE.out _ hB9).mono ?_
              rintro e wz ⟨rfl, hbz⟩
              go_wp2
              go_ret
              exact ⟨rfl, hbz⟩
            | some al =>
              have HNW := Lib.hid (own_news hOl).2
              clear hOl
              go_wp2_with (first | (at_builtin; refine wpList_append_own_at _ rfl (.tmp 219) (.tmp 221) 34 rfl wn.heap.size 9 i0 (.string ⟨#[]⟩) 1 16 Tryd.underlying34 Hi.out Hz0.out Hz1.out Hz2.out rfl (by decide) _ 0 [] rfl HEl.out al NN.length cl (NN.map Value.string) rfl (by simp) HNW.out (by intro u hu; simp at hu; obtain ⟨y, _, rfl⟩ := hu; rfl) (by unfold maxLen; omega) (by omega) hsl ?_; intro vk wk hownk hgrk _ hatk; have hqk : Below wn.heap.size wn wk := HAl.out.grown (show World.grownBy _ wk (some wn.heap.size) from hgrk) HAl.out.size (fun k e => by cases e; exact Nat.le_refl _); have hownk2 : wk.ownsRow wn.heap.size 9 1 vk NN.length (NN.map Value.string) := (by simpa using hownk); have hownk3 := World.ownsRow.alloc hownk2 (.cells #[.string moreB] 9); have HOK := Lib.hid hownk3; have HQK := Lib.hid hqk; have hsk := hqk.size; clear hownk hgrk hatk hownk2 hownk3 hqk) | (at_builtin; refine wpList_append_own_at _ rfl (.tmp 222) (.tmp 223) 34 rfl wn.heap.size 9 i0 (.string ⟨#[]⟩) 1 16 Tryd.underlying34 Hi.out Hz0.out Hz1.out Hz2.out rfl (by decide) _ NN.length (NN.map Value.string) rfl HOK.out ⟨wk.heap.size, 0, none⟩ 1 1 [.string moreB] rfl rfl (cell_one_new _ _ _) (by intro u hu; simp at hu; subst hu; rfl) (by unfold maxLen; omega) (by omega) (by simp; omega) ?_; intro vm wm hownm hgrm _ hatm; have HOM := Lib.hid hownm; have HGM := Lib.hid hgrm; clear hownm hgrm hatm))
              have hOM : OwnLines wm wn.heap.size vm (NN ++ [moreB]) := by
                unfold OwnLines
                rw [List.length_append, List.map_append]
                exact HOM.out
              have hQM : Below wn.heap.size wn wm := (HQK.out.alloc HQK.out.size _).grown (show World.grownBy _ wm vk.ownBlock from HGM.out) (by simp; omega) (fun k e => own_base HOK.out k e)
              have hJm := HJn.out.below hQM
              have hBm := HW.out.trans (hQM.mono HW.out.size)
              have hApm : Apt vm b4 g row3 lv4 := apt_fresh HJn.out (own_bound hOM)
              have hMm := HM.out
              clear HOM HGM hQM HJn HW HM HEl HNW HOK HQK
              refine (note_glue w.heap.size b4 g row3 lv4 st3 j3 xs3 9000 50 moreB _ (hg.below hBm h8) h8 hBm.size hJm hH3 hMm (by decide) (by omega) (by omega) (by omega) (by decide) (by rw [hr3]; decide)).mono ?_
              intro e w5 hL
              obtain ⟨st5, j5, xs5, row5, lv5, rfl, hJ5, hH5, hM5, hr5, hc5, hl5, ht5, hb5, hF5, hR5, hV5⟩ := hL.calm hc3 hJm hBm.size
              obtain ⟨hO5, hAp5⟩ := held_call hOM hApm hF5 hR5 hV5
              have hB5 := hBm.trans hb5
              have hT5 := hJ5.tape
              clear hL hOM hJm hBm hApm hMm hb5 hF5 hR5 hV5 hJ5 hH3
              go_wp2_with fail
              refine (fall_glue w.heap.size g row5 st5 _ _ 262144 0 0 0 _ hT5 hM5 (by decide) (by decide)).mono ?_
              rintro e w6 ⟨rfl, row6, hT6, _, hF6, hM6⟩
              have hO6 : OwnLines w6 wn.heap.size vm (NN ++ [moreB]) := own_move2 hO5 fun q e => hF6.block q (own_lt hO5 q e) (hAp5 q e).2.1 (fun e2 => (hAp5 q e).2.2.1 e2.symm)
              have hB6 := hB5.trans (fr_below hT5 hB5.size hF6)
              have hH6 := hH5.fall 262144 0 0 0
              generalize fallF st5 262144 0 0 0 = st6 at *
              clear hT5 hO5 hAp5 hF6 hB5 hH5 hM5
              go_wp2_with fail
              refine (open_glue w.heap.size g row6 st6 j5 xs5 _ _ _ (hg.below hB6 h8) hB6.size hT6 hH6 hM6 (by decide) (by decide)).mono ?_
              rintro e w7 ⟨lv7, rfl, hJ7, hb7, _⟩
              have hO7 : OwnLines w7 wn.heap.size vm (NN ++ [moreB]) := pw_own_below hO6 hb7
              have hB7 := hB6.trans (hb7.mono hB6.size)
              generalize w6.heap.size = b7 at *
              clear hT6 hO6 hB6 hb7 hM6 hH6
              have hl5b : j5.lines.map bs = NN ++ [moreB] := by
                rw [hl5, List.map_append, HNNg.out]
                simp only [List.map_cons, List.map_nil, bs_lb]
              go_wp2_with (go_at_call 13; refine (num_any _ _).mono ?_; rintro e w' ⟨rfl, rfl⟩)
              refine (lines_glue hJ7 (by rw [hl5, List.length_append]; simp only [List.length_singleton]; omega)).mono ?_
              rintro e w8 ⟨v8, rfl, hO8, hb8⟩
              rw [hl5b] at hO8
              have HT8 := Lib.hid (texts_on hO8 (show OwnLines w8 wn.heap.size vm (NN ++ [moreB]) from pw_own_below hO7 hb8) (by rw [List.length_append]; simp only [List.length_singleton]; omega) true (decide_eq_true rfl))
              have HB8 := Lib.hid (hB7.trans (hb8.mono hB7.size))
              clear hO8 hO7 hb8 hB7 hJ7
              go_wp2_with fail
              refine (HT8.out _ (Below.refl _ _)).mono ?_
              rintro e w9 ⟨rfl, hb9⟩
              have hB9 := HB8.out.trans (hb9.mono HB8.out.size)
              clear hb9 HT8 HB8
              go_wp2_with fail
              refine (DONE.out _ hB9).mono ?_
              rintro e wz ⟨rfl, hbz⟩
              go_wp2
              go_ret
              exact ⟨rfl, hbz⟩
end Go.Proofs.YtepcagakegbjfaaDoor
namespace Go.Proofs.YtepcagakegbjfaaDoor.journalFalls
open Go.ChangeShapes Go.WideShapes Go.ChangeAt Go.RowKit
open Go.ChangeMaps (open_string shut_string)
set_option linter.unusedVariables false

theorem own : ownKnob Tryd.prog.godebug = none := by kernel_rfl

set_option maxRecDepth 100000 in
theorem lifted (os : Os) (started : os.Started) (H : Type) (enc : TypeId × Value → H) :
    ReturnsInHanded {} Tryd.checked os 8 .any (fun w args => (Rows.journalFallsSpec.pre enc Tryd.prog Tryd.f8 Rows.journalFallsRow.domain false w args ∧ laidMetH Tryd.prog Rows.journalFallsRow.laid w) ∧ sizedMet enc Tryd.prog Tryd.f8 (OpenSpec.ofChange Rows.journalFallsSpec) false w args)
      (Rows.journalFallsSpec.post enc Tryd.prog Tryd.f8 false true false false) := by
  refine handed_both (C := Tryd.checked) (X := fun w _ => laidMetH Tryd.prog Rows.journalFallsRow.laid w) (fun _ _ _ hh h => h.of_heap hh) own started (by kernel_rfl) Tryd.func8
    (ChangeSpec.witness_shaped (enc := enc) (C := Tryd.checked) (os := os) (X := fun w _ => laidMetH Tryd.prog Rows.journalFallsRow.laid w) false (World.laidAll Tryd.prog os Rows.journalFallsRow.laid) #[.slice none 0 0, .int .u8 0, .slice none 0 0, .int .i64 0, .int .i64 0] 8 (World.laidAll_os _ _ _)
      (World.shaped_of_ZipB (by kernel_rfl) (by kernel_rfl)) (by kernel_rfl) (by kernel_rfl) (by kernel_rfl)
      (by rw [MakeChecks.laidMetH_plain _ _ _ (by kernel_rfl)]; exact laidMet_laidAll _ (by kernel_rfl) (by kernel_rfl))) ?_
  intro W base args ds gs before hval0 hW hS hL
  have hval : ∀ (j : Nat) t v, Tryd.f8.params[j]? = some t → args[j]? = some v → Value.okWide Tryd.prog W .any base t v := hval0
  have hW' := hW
  obtain ⟨p, q, hA0, hV, rfl, hfz, hnd⟩ := hW
  have hA : DataW.TrodAll enc Tryd.prog W 0 (fun _ => true) true Tryd.f8.params.toList args.toList ds p := hA0
  rw [Tryd.params8] at hA hval
  obtain ⟨v0, vs0, d0, ds0, p0, q0, hargs, rfl, rfl, h0, r0⟩ := trodAll_cons hA
  obtain ⟨v1, vs1, d1, ds1, p1, q1, rfl, rfl, rfl, h1, r1⟩ := trodAll_cons r0
  obtain ⟨v2, vs2, d2, ds2, p2, q2, rfl, rfl, rfl, h2, r2⟩ := trodAll_cons r1
  obtain ⟨v3, vs3, d3, ds3, p3, q3, rfl, rfl, rfl, h3, r3⟩ := trodAll_cons r2
  obtain ⟨v4, vs4, d4, ds4, p4, q4, rfl, rfl, rfl, h4, r4⟩ := trodAll_cons r3
  obtain ⟨rfl, rfl, rfl⟩ := trodAll_nil r4
  obtain rfl : args = #[v0, v1, v2, v3, v4] := by cases args; simp_all
  obtain ⟨rfl, rfl⟩ := trodVars_none hV
  have k0 := h0
  have lt0 : ∀ x ∈ p0, x.block < W.heap.size := by obtain ⟨m, hm⟩ := k0; exact DataW.trod_lt m _ _ _ hm
  have k2 := h2
  have lt2 : ∀ x ∈ p2, x.block < W.heap.size := by obtain ⟨m, hm⟩ := k2; exact DataW.trod_lt m _ _ _ hm
  obtain ⟨xss, R0⟩ := rows_open (okWide_slice Tryd.underlying22 (hval 0 22 v0 rfl rfl)) h0
  obtain ⟨A, c, rfl, _⟩ := id R0
  obtain ⟨a1, rfl, rfl, rfl, w1⟩ := open_int Tryd.underlying5 (hval 1 5 v1 rfl rfl) h1
  obtain ⟨fs, B, d, rfl, _, hC, _⟩ := bytes_open (okWide_slice Tryd.underlying35 (hval 2 35 v2 rfl rfl)) h2
  obtain ⟨a3, rfl, rfl, rfl, w3⟩ := open_int Tryd.underlying3 (hval 3 3 v3 rfl rfl) h3
  obtain ⟨a4, rfl, rfl, rfl, w4⟩ := open_int Tryd.underlying3 (hval 4 3 v4 rfl rfl) h4
  clear hA0 hval0
  refine (falls_any lineI lineSpec xss fs A B c d a1 a3 a4 W (gl_of hL hS) R0 hC).mono fun e W' ⟨he, bel⟩ => ?_
  subst he
  exact ⟨_, rfl, _, _, _, [], _, [], hW', trodAll_mk1 (shut_bool Tryd.underlying4 _), (trodAll_cons_mk (Below.trod laidOut (by kernel_rfl) (of_decide_eq_true (by kernel_rfl)) k0 bel lt0) (trodAll_cons_mk (shut_int Tryd.underlying5 w1) (trodAll_cons_mk (Below.trod laidOut (by kernel_rfl) (of_decide_eq_true (by kernel_rfl)) k2 bel lt2) (trodAll_cons_mk (shut_int Tryd.underlying3 w3) (trodAll_cons_mk (shut_int Tryd.underlying3 w4) trodAll_mk0))))), rfl, bel.frame _, fun h => by cases h⟩

/-- The row's statement. -/
theorem row_holds : Rows.JournalFallsSaid :=
  OpenClaim.holds_of_wide 8 Tryd.f8 rfl rfl rfl rfl rfl rfl rfl ⟨rfl, rfl, rfl, rfl, rfl⟩ rfl rfl rfl rfl rfl (by kernel_rfl) Tryd.func8 (by kernel_rfl)
    (of_decide_eq_true (by kernel_rfl)) (by unfold Func.isWrapper; first | (rw [if_pos (by decide +kernel)]; kernel_rfl) | (rw [if_neg (by decide +kernel)]; exact ⟨rfl, rfl⟩))
    (fun os started H enc _ => lifted os started H enc)
/-- The statement: the tied card. -/
theorem proved : Rows.JournalFallsCardSaid :=
  Claim7.holds_tied_plain_at .later [] [.data, .data, .data, .data, .sentinel, .sentinel, .pinned] true (true, "da1c6e6e57c94f45f9efa7391f33bfb80085fc88f3d189c72144fcdf8e4489a7") true
    row_holds (fun _ h => by cases h) (by kernel_rfl) (fun _ h => by cases h) journalFalls_row_tie rfl ⟨rfl, rfl⟩ (by kernel_rfl) rfl
    (fun f fn hf hfn => by
      obtain rfl : f = 8 := Option.some.inj ((show Tryd.prog.funcNamed Rows.journalFallsRow.func = some 8 by kernel_rfl).symm.trans hf) |>.symm
      obtain rfl : fn = Tryd.f8 := (Option.some.inj (Tryd.func8.symm.trans hfn)).symm
      exact ⟨by kernel_rfl, fun j t ht => by
        rw [Tryd.params8] at ht
        have hall : ∀ t ∈ [22, 5, 35, 3, 3], Tryd.prog.wantsStandIn t = false := by
          intro t ht
          simp only [List.mem_cons, List.mem_nil_iff, or_false] at ht
          rcases ht with rfl | rfl | rfl | rfl | rfl <;> kernel_rfl
        refine hall t (List.mem_of_getElem? (l := [22, 5, 35, 3, 3]) (i := j) ?_)
        simpa using ht⟩)
    (by kernel_rfl)
end Go.Proofs.YtepcagakegbjfaaDoor.journalFalls
#print axioms Go.Proofs.YtepcagakegbjfaaDoor.journalFalls.proved
