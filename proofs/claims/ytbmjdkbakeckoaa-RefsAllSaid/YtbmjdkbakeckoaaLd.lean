/- A node's own fields: the walk of the program's reading. -/
import Derived.Test.YtbmjdkbakeckoaaLc
namespace Go.Proofs.Ytbmjdkbakeckoaa
open Go.RowKit Go.Proofs.YtbmjdkbakeckoaaW.PrintWords Go.Proofs.Ytbmjdkbakeckoaa.PRefsAll
set_option linter.unusedVariables false
set_option linter.unusedSimpArgs false

def plainNum (x : S47) : Bool := if x.f0 = 1 then decide (0 ≤ x.f1) else if x.f0 = 3 then x.f1 == 0 || x.f1 == 1 else x.f1 == 0
def plainText (x : S47) : Bool := if x.f0 = 4 then refP x.f2 && !truthP (cutA x.f2) else if x.f0 = 5 then nameP x.f2 && !truthP x.f2 else x.f2.toList == []
def plainList (x : S47) : Bool := if x.f0 = 2 then partsP x.f3 else (x.f3.length : Int) == 0
def plainP (x : S47) : Bool := plainNum x && plainText x && plainList x

theorem hb_drawn {b : Nat} {w w1 : World} (h : Below b w w1) (hb : b ≤ w1.heap.size) (n : Nat) : Below b w (w1.drewN n) := h.trans ((below_drewN _ n).mono hb)
theorem cell_drawn {W : World} {p : Addr} {v : Value} (h : W.cell? p = some v) (n : Nat) : (W.drewN n).cell? p = some v := ((below_drewN W n).cell (World.block_lt_of_cell? W p h)).trans h

set_option maxRecDepth 100000 in
set_option maxHeartbeats 3200000 in
theorem plain_any (m : Int) (kind num : Int) (text : ByteArray) (parts : List S51) (kids : List Int) (A3 A4 : Option Addr) (c3 c4 : Nat) (w : World) (hm : w.cell? ⟨0, 0, none⟩ = some (.int .i64 m))
    (hl : Kd.C k51 w A3 parts.length parts) (hn : parts.length ≤ 100) (hs : ∀ p ∈ parts, p.f1.size ≤ 300) (ht : text.size ≤ 300) :
    Calls Try.prog 45 #[.agg #[.int .i64 kind, .int .i64 num, .string text, .slice A3 parts.length c3, .slice A4 kids.length c4]] w fun e w' => e = .returned (.bool (plainP ⟨kind, num, text, parts, kids⟩)) ∧ Below w.heap.size w w' := by
  have HL := Lib.hid hl
  have HS := Lib.hid hs
  have HM := Lib.hid hm
  have hw0 : 0 < w.heap.size := World.block_lt_of_cell? w _ hm
  clear hl hs hm
  go_enter Try.func45, Try.ntmps45
  go_wp2_with fail
  go_quiet (fail)
  have hb0 := (((Below.refl w.heap.size w).alloc (Nat.le_refl _) (Obj.cells #[Value.int .i64 kind, Value.int .i64 num, Value.string text, Value.slice A3 parts.length c3, Value.slice A4 kids.length c4] 47))).trans ((below_drewN _ nq).mono (by simp))
  by_cases k1 : kind = 1
  · subst k1
    go_wp2_with fail
    all_goals
      go_ret
      refine ⟨?_, hb0⟩
      unfold plainP plainNum plainText plainList
      first | (simp_all; done) | (simp_all; intros; omega)
  by_cases k3 : kind = 3
  · subst k3
    by_cases n0 : num = 0
    · subst n0
      go_wp2_with fail
      all_goals
        go_ret
        refine ⟨?_, hb0⟩
        unfold plainP plainNum plainText plainList
        simp_all
    by_cases n1 : num = 1
    · subst n1
      go_wp2_with fail
      all_goals
        go_ret
        refine ⟨?_, hb0⟩
        unfold plainP plainNum plainText plainList
        simp_all
    · go_wp2_with fail
      all_goals
        go_ret
        refine ⟨?_, hb0⟩
        unfold plainP plainNum plainText plainList
        simp_all
  have hm0 := (hb0.cell (p := ⟨0, 0, none⟩) hw0).trans HM.out
  have hq0 : ((w.alloc (Obj.cells #[Value.int .i64 kind, Value.int .i64 num, Value.string text, Value.slice A3 parts.length c3, Value.slice A4 kids.length c4] 47)).drewN nq).cell? ⟨w.heap.size, 2, none⟩ = some (.string text) := by simp
  have e1 : (kind == 1) = false := beq_eq_false_iff_ne.2 k1
  have e3 : (kind == 3) = false := beq_eq_false_iff_ne.2 k3
  have HN := Lib.hid (show plainNum ⟨kind, num, text, parts, kids⟩ = (num == 0) by unfold plainNum; simp only; rw [if_neg k1, if_neg k3])
  by_cases k2 : kind = 2
  · subst k2
    clear k1 k3
    have HT := Lib.hid (show plainText ⟨2, num, text, parts, kids⟩ = (text.toList == []) from rfl)
    go_wp2_with fail
    refine (parts_any m A3 c3 parts _ hm0 (Kd.C_below HL.out hb0) hn HS.out).mono ?_
    rintro e w2 ⟨rfl, hb2⟩
    have hbb := hb0.trans (hb2.mono hb0.size)
    go_wp2_with fail
    all_goals
      go_ret
      refine ⟨?_, hbb⟩
      unfold plainP
      rw [HN.out, HT.out]
      unfold plainList
      simp_all
  have e2 : (kind == 2) = false := beq_eq_false_iff_ne.2 k2
  have HL2 := Lib.hid (show plainList ⟨kind, num, text, parts, kids⟩ = ((parts.length : Int) == 0) by unfold plainList; simp only; rw [if_neg k2])
  by_cases k5 : kind = 5
  · subst k5
    clear k1 k3 k2
    have HT := Lib.hid (show plainText ⟨5, num, text, parts, kids⟩ = (nameP text && !truthP text) from rfl)
    go_wp2_with fail
    refine (lexname_any text _).mono ?_
    rintro e w2 ⟨rfl, hb2⟩
    have hbb := hb0.trans (hb2.mono hb0.size)
    clear hb0
    have q2 := (hb2.cell (p := ⟨w.heap.size, 2, none⟩) (by simp)).trans hq0
    clear hq0 hb2
    obtain ⟨na, hna⟩ : ∃ x, nameP text = x := ⟨_, rfl⟩
    rw [hna]
    cases na
    · go_wp2_with fail
      all_goals
        go_ret
        refine ⟨?_, hbb⟩
        unfold plainP
        rw [HN.out, HT.out, HL2.out]
        simp_all
    · go_wp2_with fail
      refine (truth_any text _).mono ?_
      rintro e w3 ⟨rfl, n3, rfl⟩
      have hb3 := hbb.trans ((below_drewN _ n3).mono hbb.size)
      obtain ⟨ta, hta⟩ : ∃ x, truthP text = x := ⟨_, rfl⟩
      rw [hta]
      go_wp2_with fail
      all_goals
        go_ret
        refine ⟨?_, hb3⟩
        unfold plainP
        rw [HN.out, HT.out, HL2.out]
        simp_all
  have e5 : (kind == 5) = false := beq_eq_false_iff_ne.2 k5
  by_cases k4 : kind = 4
  · subst k4
    clear k1 k3 k2 k5
    have HT := Lib.hid (show plainText ⟨4, num, text, parts, kids⟩ = (refP text && !truthP (cutA text)) from rfl)
    go_wp2_with fail
    refine (cut_any text m _ hm0 ht).mono ?_
    rintro e w2 ⟨rfl, n2, hw2⟩
    have hbb : Below w.heap.size w w2 := by rw [hw2]; exact hb_drawn hb0 hb0.size n2
    have q2 : w2.cell? ⟨w.heap.size, 2, none⟩ = some (.string text) := by rw [hw2]; exact cell_drawn hq0 n2
    have hm2 : w2.cell? ⟨0, 0, none⟩ = some (.int .i64 m) := by rw [hw2]; exact cell_drawn hm0 n2
    clear hq0 hm0 hw2
    go_wp2_with fail
    refine (ref_any text m _ hm2 ht).mono ?_
    rintro e w3 ⟨rfl, hb3⟩
    have hbc := hbb.trans (hb3.mono hbb.size)
    obtain ⟨na, hna⟩ : ∃ x, refP text = x := ⟨_, rfl⟩
    rw [hna]
    cases na
    · go_wp2_with fail
      all_goals
        go_ret
        refine ⟨?_, hbc⟩
        unfold plainP
        rw [HN.out, HT.out, HL2.out]
        simp_all
    · go_wp2_with fail
      refine (truth_any (cutA text) _).mono ?_
      rintro e w4 ⟨rfl, n4, rfl⟩
      have hb4 := hbc.trans ((below_drewN _ n4).mono hbc.size)
      obtain ⟨ta, hta⟩ : ∃ x, truthP (cutA text) = x := ⟨_, rfl⟩
      rw [hta]
      go_wp2_with fail
      all_goals
        go_ret
        refine ⟨?_, hb4⟩
        unfold plainP
        rw [HN.out, HT.out, HL2.out]
        simp_all
  · have e4 : (kind == 4) = false := beq_eq_false_iff_ne.2 k4
    have HT := Lib.hid (show plainText ⟨kind, num, text, parts, kids⟩ = (text.toList == []) by unfold plainText; simp only; rw [if_neg k4, if_neg k5])
    clear k1 k3 k2 k5 k4
    by_cases n0 : num = 0
    · subst n0
      go_wp2_with fail
      all_goals
        go_ret
        refine ⟨?_, hb0⟩
        unfold plainP
        rw [HN.out, HT.out, HL2.out]
        simp_all
    · go_wp2_with fail
      all_goals
        go_ret
        refine ⟨?_, hb0⟩
        unfold plainP
        rw [HN.out, HT.out, HL2.out]
        simp_all
end Go.Proofs.Ytbmjdkbakeckoaa
