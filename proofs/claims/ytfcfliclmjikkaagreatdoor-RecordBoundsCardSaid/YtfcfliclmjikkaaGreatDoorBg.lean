/- Package record: so many lines. -/
import Derived.Test.YtfcfliclmjikkaaGreatDoorBf
import Derived.OwnWalk
import Derived.Maps.AppendAt
namespace Go.Proofs.YtfcfliclmjikkaaGreatDoor
open Go Go.Proofs
open Go.RowKit
set_option maxRecDepth 100000
set_option linter.unusedVariables false
set_option linter.unusedSimpArgs false
set_option maxHeartbeats 2000000

theorem info9 : (Tryz.prog.info? 9).map (fun i => (i.zero, i.size, i.bytes)) = some (some (.string ⟨#[]⟩), 1, 16) := by kernel_rfl
theorem own_below {w w' : World} {B : Nat} {e : TypeId} {size : Nat} {v : Value} {n : Nat} {xs : List Value} (h : w.ownsRow B e size v n xs) (hb : Below w.heap.size w w') : w'.ownsRow B e size v n xs :=
  ⟨h.1, h.2.imp id fun ⟨g, cap, cur, a, b, c, d⟩ => ⟨g, cap, cur, a, b, (hb.block g (Array.getElem?_eq_some_iff.1 c).1).trans c, d⟩⟩
theorem own_len {w : World} {B : Nat} {e : TypeId} {size : Nat} {v : Value} {n : Nat} {xs : List Value} (h : w.ownsRow B e size v n xs) : ∃ A c, v = .slice A n c := by
  rcases h.2 with ⟨rfl, rfl⟩ | ⟨g, cap, cur, rfl, _⟩
  · exact ⟨_, _, rfl⟩
  · exact ⟨_, _, rfl⟩
theorem own_block {w : World} {B : Nat} {e : TypeId} {size : Nat} {v : Value} {n : Nat} {xs : List Value} (h : w.ownsRow B e size v n xs) : ∀ k, v.ownBlock = some k → B ≤ k := by
  rcases h.2 with ⟨rfl, rfl⟩ | ⟨g, cap, cur, rfl, hB, _⟩
  · intro k hk; cases hk
  · intro k hk; cases hk; exact hB

theorem lines_any (vM vS : Value) (k p : Nat) (d : Int) (hk : k < 260) (hp : p < 500) (w : World) (hM : MkAt w vM k) (hS : StAt w vS p) (N : Nat) (hN : N = bif mayB k p d then k + p else 0) :
    Calls Tryz.prog 15 #[.agg #[vM, vS, .int .i64 d]] w fun e w' => (∃ A c, e = .returned (.slice A N c)) ∧ Below w.heap.size w w' := by
  have HNN := Lib.hid hN
  clear hN
  have HM := Lib.hid hM
  have HS := Lib.hid hS
  obtain ⟨A, cap, rfl⟩ := hM.len
  obtain ⟨A', cap', rfl⟩ := hS.len
  clear hM hS
  go_enter Tryz.func15, Tryz.ntmps15
  have HB0 : RowKit.Hid (Below w.heap.size w (w.alloc (.cells #[.slice A k cap, .slice A' p cap', .int .i64 d] 27))) := (Below.refl w.heap.size w).alloc (Nat.le_refl _) _
  go_wp2_with fail
  refine (may_any _ _ k p d hk hp _ (HM.out.below HB0.out) (HS.out.below HB0.out)).mono ?_
  rintro e w1 ⟨rfl, hb1⟩
  have f0 : w1.cell? ⟨w.heap.size, 0, none⟩ = some (.slice A k cap) := (hb1.cell (p := ⟨w.heap.size, 0, none⟩) (by simp)).trans (by simp)
  have f1 : w1.cell? ⟨w.heap.size, 1, none⟩ = some (.slice A' p cap') := (hb1.cell (p := ⟨w.heap.size, 1, none⟩) (by simp)).trans (by simp)
  have f2 : w1.cell? ⟨w.heap.size, 2, none⟩ = some (.int .i64 d) := (hb1.cell (p := ⟨w.heap.size, 2, none⟩) (by simp)).trans (by simp)
  have hlt1 : w.heap.size < w1.heap.size := by have := hb1.size; simp at this; omega
  have HB1 := Lib.hid (HB0.out.trans (hb1.mono HB0.out.size))
  clear hb1
  cases hx : mayB k p d with
  | false =>
    obtain rfl : N = 0 := by rw [HNN.out, hx]; rfl
    clear hx HNN
    go_wp2
    go_ret
    exact ⟨⟨none, 0, rfl⟩, HB1.out⟩
  | true =>
    obtain rfl : N = k + p := by rw [HNN.out, hx]; rfl
    clear hx HNN
    go_wp2_with fail
    go_loopw [3, 14] (fun v i wr => ∃ (j : Nat) (xs : List Value), j ≤ k ∧ i = .int .i64 j ∧ RowKit.Hid (wr.ownsRow w1.heap.size 9 1 v j xs) ∧ RowKit.Hid (Below w1.heap.size w1 wr)) (fun _ i _ => k - (intOf i).toNat)
    case atStart => exact ⟨0, [], by omega, rfl, Lib.hid (World.ownsRow_nil _ _ _ _), Lib.hid (Below.refl _ _)⟩
    case round =>
      obtain ⟨j, xs, hj, rfl, hown, hb⟩ := hrel
      rename_i uv _
      have hs1 := hb.out.size
      obtain ⟨Av, cv, rfl⟩ := own_len hown.out
      by_cases hlt : j < k
      · rcases HM.out with ⟨_, h0⟩ | ⟨g, o, cap2, he, hg, hcells⟩
        · omega
        obtain rfl : A = some ⟨g, o, none⟩ := by injection he
        have hc : ∀ off, wr.cell? ⟨g, off, none⟩ = w.cell? ⟨g, off, none⟩ := fun off => (hb.out.cell (p := ⟨g, off, none⟩) (by show g < w1.heap.size; omega)).trans (HB1.out.cell (p := ⟨g, off, none⟩) hg)
        obtain ⟨a0, a1, a2, a3, a4, a5⟩ := hcells j hlt
        rw [← hc] at a0 a1 a2 a3 a4 a5
        have HN : RowKit.Hid (Below wr.heap.size wr (wr.alloc (.cells #[.string ⟨(nmA j).toArray⟩, .string ByteArray.empty, .int .i64 0, .int .i64 0, .int .i64 0, .int .i64 1] 46))) := (Below.refl wr.heap.size wr).alloc (Nat.le_refl _) _
        clear hc hcells he f0 f1 f2
        go_wp2_with fail
        refine (mark_calls (i := j) (by omega) _).mono ?_
        rintro e w2 ⟨s, rfl, hs, hb2⟩
        have hs2 := HN.out.size
        have HB2 := Lib.hid (HN.out.trans (hb2.mono hs2))
        clear hb2 a0 a1 a2 a3 a4 a5
        obtain ⟨i0, hi, hz0, hz1, hz2⟩ := info_parts info9
        have Hi := Lib.hid hi
        have Hz0 := Lib.hid hz0
        have Hz1 := Lib.hid hz1
        have Hz2 := Lib.hid hz2
        have hA3 := (Below.refl w2.heap.size w2).alloc (Nat.le_refl _) (Obj.cells #[.string (⟨#[109, 97, 114, 107, 32]⟩ ++ s)] 9)
        have HW3 := Lib.hid (HB2.out.trans (hA3.mono HB2.out.size))
        have HO3 := Lib.hid (own_below hown.out HW3.out)
        have HSZ : RowKit.Hid (w1.heap.size ≤ (w2.alloc (.cells #[.string (⟨#[109, 97, 114, 107, 32]⟩ ++ s)] 9)).heap.size) := Lib.hid (by have := HW3.out.size; omega)
        clear hi hz0 hz1 hz2 hA3
        go_wp2_with (at_builtin; refine wpList_append_own_at _ rfl _ _ 29 rfl w1.heap.size 9 i0 (.string ⟨#[]⟩) 1 16 Tryz.underlying29 Hi.out Hz0.out Hz1.out Hz2.out rfl (by decide) _ _ _ rfl HO3.out ⟨w2.heap.size, 0, none⟩ 1 1 [.string (⟨#[109, 97, 114, 107, 32]⟩ ++ s)] rfl rfl (cell_one_new _ _ _) (by intro u hu; simp at hu; subst hu; rfl) (by unfold maxLen; omega) (by omega) HSZ.out ?_; intro v5 w5 hown5 hgrow hnil hat; have HOWN5 := Lib.hid hown5; have HGR := Lib.hid hgrow; clear hown5 hgrow hnil hat)
        have hB5 := Lib.hid ((hb.out.trans (HW3.out.mono hb.out.size)).grown HGR.out HSZ.out (own_block HO3.out))
        go_wp2_with fail
        go_roundw
        case rel => exact ⟨j + 1, _, by omega, by go_num, HOWN5, hB5⟩
        case measure => simp [intOf]; omega
      · obtain rfl : j = k := by omega
        have f1r := (hb.out.cell (p := ⟨w.heap.size, 1, none⟩) hlt1).trans f1
        have f2r := (hb.out.cell (p := ⟨w.heap.size, 2, none⟩) hlt1).trans f2
        clear f0 f1
        go_wp2_with fail
        have F2 := Lib.hid f2
        clear f1r f2r f2
        obtain ⟨i0, hi, hz0, hz1, hz2⟩ := info_parts info9
        have Hi := Lib.hid hi
        have Hz0 := Lib.hid hz0
        have Hz1 := Lib.hid hz1
        have Hz2 := Lib.hid hz2
        clear hi hz0 hz1 hz2
        have hB0 := hb
        have hO0 := hown
        clear hb hown
        generalize wr = wa at *
        go_loopw [3, 28] (fun v i wr => ∃ (j2 : Nat) (xs : List Value), j2 ≤ p ∧ i = .int .i64 j2 ∧ RowKit.Hid (wr.ownsRow w1.heap.size 9 1 v (j + j2) xs) ∧ RowKit.Hid (Below w1.heap.size w1 wr)) (fun _ i _ => p - (intOf i).toNat)
        case atStart => exact ⟨0, _, by omega, rfl, hO0, hB0⟩
        case round =>
          obtain ⟨j2, xs2, hj2, rfl, hown, hb⟩ := hrel
          clear hO0 hB0
          have hs3 := hb.out.size
          obtain ⟨Av2, cv2, rfl⟩ := own_len hown.out
          by_cases hlt2 : j2 < p
          · rcases HS.out with ⟨_, h0⟩ | ⟨g, o, cap2, he, hg, hcells⟩
            · omega
            obtain rfl : A' = some ⟨g, o, none⟩ := by injection he
            have hcc : ∀ off, wr.cell? ⟨g, off, none⟩ = w.cell? ⟨g, off, none⟩ := fun off => (hb.out.cell (p := ⟨g, off, none⟩) (by show g < w1.heap.size; omega)).trans (HB1.out.cell (p := ⟨g, off, none⟩) hg)
            obtain ⟨a0, a1, a2, a3, a4, a5⟩ := hcells j2 hlt2
            rw [← hcc] at a0 a1 a2 a3 a4 a5
            have f2 : (wr.alloc (.cells #[.int .i64 4, .string ⟨#[120]⟩, .string ByteArray.empty, .int .i64 0, .int .i64 0, .int .i64 0] 35)).cell? ⟨w.heap.size, 2, none⟩ = some (.int .i64 d) := (((Below.refl wr.heap.size wr).alloc (Nat.le_refl _) _).cell (p := ⟨w.heap.size, 2, none⟩) (Nat.lt_of_lt_of_le hlt1 hs3)).trans ((hb.out.cell (p := ⟨w.heap.size, 2, none⟩) hlt1).trans F2.out)
            have HN : RowKit.Hid (Below wr.heap.size wr (wr.alloc (.cells #[.int .i64 4, .string ⟨#[120]⟩, .string ByteArray.empty, .int .i64 0, .int .i64 0, .int .i64 0] 35))) := (Below.refl wr.heap.size wr).alloc (Nat.le_refl _) _
            clear hcc hcells he
            by_cases hjd : (j2 : Int) < d
            · skip
              go_wp2_with fail
              refine (step_calls _).mono ?_
              rintro e w2 ⟨s, rfl, hs, hb2⟩
              have hs2 := HN.out.size
              have HB2 := Lib.hid (HN.out.trans (hb2.mono hs2))
              clear hb2 a0 a1 a2 a3 a4 a5
              have hA3 := (Below.refl w2.heap.size w2).alloc (Nat.le_refl _) (Obj.cells #[.string (⟨#[112, 97, 115, 116, 32]⟩ ++ s)] 9)
              have HW3 := Lib.hid (HB2.out.trans (hA3.mono HB2.out.size))
              have HO3 := Lib.hid (own_below hown.out HW3.out)
              have HSZ : RowKit.Hid (w1.heap.size ≤ (w2.alloc (.cells #[.string (⟨#[112, 97, 115, 116, 32]⟩ ++ s)] 9)).heap.size) := Lib.hid (by have := HW3.out.size; omega)
              clear hA3
              go_wp2_with (at_builtin; refine wpList_append_own_at _ rfl _ _ 29 rfl w1.heap.size 9 i0 (.string ⟨#[]⟩) 1 16 Tryz.underlying29 Hi.out Hz0.out Hz1.out Hz2.out rfl (by decide) _ _ _ rfl HO3.out ⟨w2.heap.size, 0, none⟩ 1 1 [.string (⟨#[112, 97, 115, 116, 32]⟩ ++ s)] rfl rfl (cell_one_new _ _ _) (by intro u hu; simp at hu; subst hu; rfl) (by unfold maxLen; omega) (by omega) HSZ.out ?_; intro v5 w5 hown5 hgrow hnil hat; have HOWN5 := Lib.hid hown5; have HGR := Lib.hid hgrow; clear hown5 hgrow hnil hat)
              have hB5 := Lib.hid ((hb.out.trans (HW3.out.mono hb.out.size)).grown HGR.out HSZ.out (own_block HO3.out))
              go_wp2_with fail
              go_roundw
              case rel => exact ⟨j2 + 1, _, by omega, by go_num, HOWN5, hB5⟩
              case measure => simp [intOf]; omega
            · skip
              go_wp2_with fail
              refine (step_calls _).mono ?_
              rintro e w2 ⟨s, rfl, hs, hb2⟩
              have hs2 := HN.out.size
              have HB2 := Lib.hid (HN.out.trans (hb2.mono hs2))
              clear hb2 a0 a1 a2 a3 a4 a5
              have hA3 := (Below.refl w2.heap.size w2).alloc (Nat.le_refl _) (Obj.cells #[.string (⟨#[115, 116, 101, 112, 32]⟩ ++ s)] 9)
              have HW3 := Lib.hid (HB2.out.trans (hA3.mono HB2.out.size))
              have HO3 := Lib.hid (own_below hown.out HW3.out)
              have HSZ : RowKit.Hid (w1.heap.size ≤ (w2.alloc (.cells #[.string (⟨#[115, 116, 101, 112, 32]⟩ ++ s)] 9)).heap.size) := Lib.hid (by have := HW3.out.size; omega)
              clear hA3
              go_wp2_with (at_builtin; refine wpList_append_own_at _ rfl _ _ 29 rfl w1.heap.size 9 i0 (.string ⟨#[]⟩) 1 16 Tryz.underlying29 Hi.out Hz0.out Hz1.out Hz2.out rfl (by decide) _ _ _ rfl HO3.out ⟨w2.heap.size, 0, none⟩ 1 1 [.string (⟨#[115, 116, 101, 112, 32]⟩ ++ s)] rfl rfl (cell_one_new _ _ _) (by intro u hu; simp at hu; subst hu; rfl) (by unfold maxLen; omega) (by omega) HSZ.out ?_; intro v5 w5 hown5 hgrow hnil hat; have HOWN5 := Lib.hid hown5; have HGR := Lib.hid hgrow; clear hown5 hgrow hnil hat)
              have hB5 := Lib.hid ((hb.out.trans (HW3.out.mono hb.out.size)).grown HGR.out HSZ.out (own_block HO3.out))
              go_wp2_with fail
              go_roundw
              case rel => exact ⟨j2 + 1, _, by omega, by go_num, HOWN5, hB5⟩
              case measure => simp [intOf]; omega
          · obtain rfl : j2 = p := by omega
            go_wp2
            go_ret
            exact ⟨⟨_, _, rfl⟩, HB1.out.trans (hb.out.mono HB1.out.size)⟩
end Go.Proofs.YtfcfliclmjikkaaGreatDoor
