/- Parts of a text: the walk of the program's reading. -/
import Derived.Test.YtbmjdkbakeckoaaLb
namespace Go.Proofs.Ytbmjdkbakeckoaa
open Go.RowKit Go.Proofs.YtbmjdkbakeckoaaW.PrintWords Go.Proofs.Ytbmjdkbakeckoaa.PRefsAll
set_option linter.unusedVariables false
set_option linter.unusedSimpArgs false

/-- May each byte from i on stand within a text? -/
def okF (s : ByteArray) : Nat → Nat → Bool
  | 0, _ => true
  | d + 1, i => (decide (32 ≤ bt s i) || bt s i == 10) && okF s d (i + 1)
def printP (s : ByteArray) : Bool := okF s s.size 0
def truthP (s : ByteArray) : Bool := decide (s.toList = [116, 114, 117, 101]) || decide (s.toList = [102, 97, 108, 115, 101])

theorem printed_loop (s : ByteArray) (hs : s.size ≤ 140737488351232) : ∀ (d i k : Nat), i + d = s.size → d + 1 ≤ k → parse_printed.l0 k s (s.size : Int) (i : Int) = some (okF s d i)
  | 0, i, k, hi, hk => by
    obtain ⟨k, rfl⟩ : ∃ m, k = m + 1 := ⟨k - 1, by omega⟩
    simp only [parse_printed.l0]
    rw [if_neg (by omega)]
    rfl
  | d + 1, i, k, hi, hk => by
    obtain ⟨k, rfl⟩ : ∃ m, k = m + 1 := ⟨k - 1, by omega⟩
    have hw : wrap64 ((i : Int) + 1) = ((i + 1 : Nat) : Int) := by unfold wrap64; omega
    have ih := printed_loop s hs d (i + 1) k (by omega) (by omega)
    simp only [parse_printed.l0]
    rw [if_pos (by omega), if_pos (by omega), if_pos (by omega), hw, ih]
    simp only [okF]
    by_cases h1 : bt s i < 32
    · rw [if_pos h1]
      have h3 : ¬ 32 ≤ bt s i := by omega
      by_cases h2 : bt s i = 10
      · rw [if_pos h2]; simp [h2]
      · rw [if_neg h2]; simp [h2, h3]
    · rw [if_neg h1]
      have h3 : 32 ≤ bt s i := by omega
      simp [h3]

theorem printed_any (s : ByteArray) (w : World) (hs : s.size ≤ 300) : Calls Try.prog 75 #[.string s] w fun e w' => e = .returned (.bool (printP s)) ∧ ∃ n, w' = w.drewN n := by
  refine (parse_printed.calls (s.size + 1) s (printP s) w ?_).mono ?_
  · unfold parse_printed.f printP
    have := printed_loop s (by omega) s.size 0 (s.size + 1) (by omega) (Nat.le_refl _)
    rw [show ((0 : Nat) : Int) = 0 from rfl] at this
    exact this
  · rintro e w' ⟨rfl, h⟩
    exact ⟨rfl, h.out⟩

theorem truth_any (s : ByteArray) (w : World) : Calls Try.prog 55 #[.string s] w fun e w' => e = .returned (.bool (truthP s)) ∧ ∃ n, w' = w.drewN n := by
  refine (parse_truth.calls s (truthP s) w ?_).mono ?_
  · unfold parse_truth.f truthP
    by_cases h : s.toList = [116, 114, 117, 101]
    · rw [if_pos h]; simp [h]
    · rw [if_neg h]
      simp only [h, decide_false, Bool.false_or, Option.some.injEq]
      rw [Bool.eq_iff_iff]; simp
  · rintro e w' ⟨rfl, h⟩
    exact ⟨rfl, h.out⟩

def partsG : Bool → List S51 → Bool
  | _, [] => true
  | pr, p :: l => if p.f0 then refP p.f1 && partsG true l else decide (p.f1.size ≠ 0) && pr && printP p.f1 && partsG false l
def partsP (l : List S51) : Bool := partsG true l
def prevF (l : List S51) (i : Nat) : Bool := if i = 0 then true else (rd_T51 l ((i : Int) - 1)).f0

theorem prevF_succ (l : List S51) (i : Nat) : prevF l (i + 1) = (rd_T51 l (i : Int)).f0 := by
  unfold prevF
  rw [if_neg (by omega)]
  congr 2
  omega
theorem rd_drop (l : List S51) (i : Nat) (h : i < l.length) : l.drop i = rd_T51 l (i : Int) :: l.drop (i + 1) := by
  rw [List.drop_eq_getElem_cons h]
  congr 1
  unfold rd_T51
  simp [List.getD, h]
theorem rd_mem (l : List S51) (i : Nat) (h : i < l.length) : rd_T51 l (i : Int) ∈ l := by
  unfold rd_T51
  simp [List.getD, h]

/-- A part's cells, at an address written out. -/
theorem part_cells {w : World} {A : Option Addr} {n : Nat} {l : List S51} (h : Kd.C k51 w A n l) (i : Nat) (hi : i < n) :
    ∃ b o, A = some ⟨b, o, none⟩ ∧ b < w.heap.size ∧ w.cell? ⟨b, o + i * 2, none⟩ = some (.bool (rd_T51 l i).f0) ∧ w.cell? ⟨b, o + i * 2 + 1, none⟩ = some (.string (rd_T51 l i).f1) := by
  obtain ⟨ad, rfl, h0, h1⟩ := at_T51 h i (by omega) (by omega)
  obtain ⟨ad2, e2, g0, _⟩ := at_T51 h 0 (by omega) (by omega)
  injection e2 with e2
  subst e2
  rw [show (0 : Int).toNat * 2 = 0 from rfl, Addr.add_zero'] at g0
  have hsp := World.cell?_spot g0
  obtain ⟨b, o, sp⟩ := ad
  simp only at hsp
  subst hsp
  have ht : ((i : Int)).toNat = i := by omega
  rw [ht] at h0 h1
  have e1 : (⟨b, o, none⟩ : Addr).add (i * 2) = ⟨b, o + i * 2, none⟩ := by unfold Addr.add; split <;> simp_all
  rw [e1] at h0 h1
  exact ⟨b, o, rfl, World.block_lt_of_cell? w _ h0, h0, h1⟩

set_option maxRecDepth 100000 in
set_option maxHeartbeats 3200000 in
theorem parts_any (m : Int) (A : Option Addr) (c : Nat) (l : List S51) (w : World) (hm : w.cell? ⟨0, 0, none⟩ = some (.int .i64 m)) (hl : Kd.C k51 w A l.length l) (hn : l.length ≤ 100) (hs : ∀ p ∈ l, p.f1.size ≤ 300) :
    Calls Try.prog 57 #[.slice A l.length c] w fun e w' => e = .returned (.bool (partsP l)) ∧ Below w.heap.size w w' := by
  have HL := Lib.hid hl
  have HS := Lib.hid hs
  have HM := Lib.hid hm
  have hw0 : 0 < w.heap.size := World.block_lt_of_cell? w _ hm
  clear hl hs hm
  go_enter Try.func57, Try.ntmps57
  go_wp2_with fail
  go_loopw [7] (fun iv wr => ∃ i : Nat, i ≤ l.length ∧ iv = .int .i64 i ∧ partsG (prevF l i) (l.drop i) = partsP l ∧ Below w.heap.size w wr) (fun iv _ => l.length - (intOf iv).toNat)
  case atStart => exact ⟨0, by omega, rfl, rfl, Below.refl _ _⟩
  case round =>
    obtain ⟨i, hi, rfl, hP, hb⟩ := hrel
    have HP := Lib.hid hP
    clear hP
    by_cases hlt : i < l.length
    · obtain ⟨b, o, rfl, hbw, c0, c1⟩ := part_cells HL.out i hlt
      have q0 := (hb.cell (p := ⟨b, o + i * 2, none⟩) hbw).trans c0
      have q1 := (hb.cell (p := ⟨b, o + i * 2 + 1, none⟩) hbw).trans c1
      have hps := HS.out _ (rd_mem l i hlt)
      have HD := Lib.hid (show partsG (prevF l i) (rd_T51 l i :: l.drop (i + 1)) = partsP l by rw [← rd_drop l i hlt]; exact HP.out)
      have HV := Lib.hid (prevF_succ l i)
      have hpv : 0 < i → ∃ j, i = j + 1 ∧ wr.cell? ⟨b, o + j * 2, none⟩ = some (.bool (prevF l i)) := fun h => by
        obtain ⟨j, rfl⟩ : ∃ j, i = j + 1 := ⟨i - 1, by omega⟩
        obtain ⟨b', o', e, _, d0, _⟩ := part_cells HL.out j (by omega)
        injection e with e; injection e with e1 e2
        subst e1 e2
        refine ⟨j, rfl, ?_⟩
        rw [prevF_succ]
        exact (hb.cell (p := ⟨b, o + j * 2, none⟩) hbw).trans d0
      have HPV := Lib.hid hpv
      have HP0 := Lib.hid (show i = 0 → prevF l i = true from fun e => by subst e; rfl)
      clear hpv c0 c1
      have hm1 := (hb.cell (p := ⟨0, 0, none⟩) hw0).trans HM.out
      generalize prevF l i = pv at *
      generalize rd_T51 l i = p at *
      obtain ⟨f0, f1⟩ := p
      simp only at q0 q1 hps
      cases f0
      · have hba := hb.alloc hb.size (Obj.cells #[Value.bool false, Value.string f1] 51)
        have hm2 := (hba.cell (p := ⟨0, 0, none⟩) hw0).trans HM.out
        by_cases hz : f1.toList = []
        · go_wp2_with fail
          go_ret
          have hsz := (toList_nil f1).1 hz
          have HD2 := HD.out
          simp only [partsG, hsz] at HD2
          exact ⟨by rw [← HD2]; rfl, hba⟩
        · have hsz : f1.size ≠ 0 := fun e => hz ((toList_nil f1).2 e)
          have hz' : (f1.toList == []) = false := beq_eq_false_iff_ne.2 hz
          have HD2 := HD.out
          simp only [partsG, hsz, ne_eq, not_false_eq_true, decide_true, Bool.true_and, Bool.false_eq_true, if_false] at HD2
          have HD3 := Lib.hid HD2
          clear HD2 hsz hz HD hm1
          rcases Nat.eq_zero_or_pos i with h0 | h0
          · obtain rfl := HP0.out h0
            have h0' : ¬ (0 : Int) < i := by omega
            clear h0 HPV HP0
            go_wp2_with fail
            refine (printed_any f1 _ hps).mono ?_
            rintro e w2 ⟨rfl, n2, rfl⟩
            have hb2 := hba.trans ((below_drewN _ n2).mono hba.size)
            obtain ⟨rf, hrf⟩ : ∃ x, printP f1 = x := ⟨_, rfl⟩
            rw [hrf]
            have HD4 := HD3.out
            rw [hrf] at HD4
            have HD5 := Lib.hid HD4
            clear HD4 hrf hm2 hba
            cases rf
            · go_wp2
              go_ret
              exact ⟨by have := HD5.out; rw [← this]; rfl, hb2⟩
            · go_wp2
              go_roundw
              case rel => exact ⟨i + 1, by omega, by go_num, by rw [HV.out]; exact HD5.out, hb2⟩
              case measure => simp [intOf]; omega
          · obtain ⟨j, rfl, hq⟩ := HPV.out h0
            have h0' : (0 : Int) < ((j + 1 : Nat) : Int) := by omega
            have hbr : b < wr.heap.size := Nat.lt_of_lt_of_le hbw hb.size
            have hq2 : (wr.alloc (Obj.cells #[Value.bool false, Value.string f1] 51)).cell? ⟨b, o + j * 2, none⟩ = some (.bool pv) := (((Below.refl wr.heap.size wr).alloc (Nat.le_refl _) _).cell (p := ⟨b, o + j * 2, none⟩) hbr).trans hq
            have HD4 := HD3.out
            clear HD3 h0
            cases pv
            · go_wp2_with fail
              go_ret
              exact ⟨by rw [← HD4]; rfl, hba⟩
            · go_wp2_with fail
              refine (printed_any f1 _ hps).mono ?_
              rintro e w2 ⟨rfl, n2, rfl⟩
              have hb2 := hba.trans ((below_drewN _ n2).mono hba.size)
              obtain ⟨rf, hrf⟩ : ∃ x, printP f1 = x := ⟨_, rfl⟩
              rw [hrf]
              rw [hrf] at HD4
              have HD5 := Lib.hid HD4
              clear HD4 hrf hm2 hba
              cases rf
              · go_wp2
                go_ret
                exact ⟨by have := HD5.out; rw [← this]; rfl, hb2⟩
              · go_wp2
                go_roundw
                case rel => exact ⟨j + 1 + 1, by omega, by go_num, by rw [HV.out]; exact HD5.out, hb2⟩
                case measure => simp [intOf]; omega
      · go_wp2_with fail
        have hba := hb.alloc hb.size (Obj.cells #[Value.bool true, Value.string f1] 51)
        have hm2 := (hba.cell (p := ⟨0, 0, none⟩) hw0).trans HM.out
        refine (ref_any f1 m _ hm2 hps).mono ?_
        rintro e w2 ⟨rfl, hb2⟩
        have hbb := hba.trans (hb2.mono hba.size)
        obtain ⟨rf, hrf⟩ : ∃ x, refP f1 = x := ⟨_, rfl⟩
        rw [hrf]
        have HD2 := HD.out
        simp only [partsG, if_true, hrf] at HD2
        have HD3 := Lib.hid HD2
        clear HD2 hrf hm1 hm2 hba hb2
        cases rf
        · go_wp2
          go_ret
          exact ⟨by have := HD3.out; rw [← this]; rfl, hbb⟩
        · go_wp2
          go_roundw
          case rel => exact ⟨i + 1, by omega, by go_num, by rw [HV.out]; exact HD3.out, hbb⟩
          case measure => simp [intOf]; omega
    · obtain rfl : i = l.length := by omega
      go_wp2_with fail
      go_ret
      exact ⟨by have := HP.out; rw [List.drop_length] at this; rw [← this]; rfl, hb⟩
end Go.Proofs.Ytbmjdkbakeckoaa
