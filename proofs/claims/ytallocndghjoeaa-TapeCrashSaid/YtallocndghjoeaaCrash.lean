/- The change of that number is not done, and nothing behind it: the walk of the statement. -/
import Derived.Test.YtallocndghjoeaaTm
import Derived.OpenShut
namespace Go.Proofs.Ytallocndghjoeaa
open Go.RowKit Go.Proofs.YtallocndghjoeaaW.PrintWords

set_option maxRecDepth 100000 in
set_option maxHeartbeats 1600000 in
theorem law_crash (a : Int) (wa : (Lit.int .u8 a).wf = true) (c : Int) (wc : (Lit.int .u8 c).wf = true) (w : World) : Calls Try.prog 4 #[.int .u8 a, .int .u8 c] w fun e w' => e = .returned (.bool true) ∧ Below w.heap.size w w' := by
  obtain ⟨ba0, ba1⟩ := bounds_u8 wa
  obtain ⟨bc0, bc1⟩ := bounds_u8 wc
  clear wa wc
  obtain ⟨k, hk⟩ : ∃ k : Nat, (k : Int) = 1 + a % 10 := ⟨(1 + a % 10).toNat, by omega⟩
  obtain ⟨s, hs⟩ : ∃ s : Nat, (s : Int) = 1 + c % 10 := ⟨(1 + c % 10).toNat, by omega⟩
  have hk1 : 1 ≤ k := by omega
  have hk2 : k ≤ 10 := by omega
  have HK := Lib.hid hk
  have HS := Lib.hid hs
  clear hk hs
  go_enter Try.func4, Try.ntmps4
  go_wp2_with fail
  rw [← HK.out]
  refine (new_any 1000 k 0 0 _).mono ?_
  rintro e w1 ⟨b, rfl, hT1, hb1⟩
  have hC1 := cr_new k hk1
  change TapeAt w1 w.heap.size b none (newSt 1000 k 0 0) at hT1
  generalize newSt 1000 k 0 0 = st at *
  go_wp2
  go_loopw [7, 8] (fun iv _ wr => ∃ (i : Nat) (st' : TapeSt) (row : Option Nat), 1 ≤ i ∧ i ≤ 11 ∧ iv = .int .i64 i ∧ Cr st' i k ∧ TapeAt wr w.heap.size b row st' ∧ Below w.heap.size w wr) (fun iv _ _ => 11 - (intOf iv).toNat)
  case atStart => exact ⟨1, st, none, by omega, by omega, rfl, hC1, hT1, hb1⟩
  case round =>
    obtain ⟨i, st', row, hi1, hi2, rfl, hC, hT, hb⟩ := hrel
    have hok := hC.ok (by omega) hi1 (by omega)
    clear hC1 hT1 hb1
    by_cases hi : i ≤ 10
    · by_cases his : i = s
      · have ht : ((i : Int) == 1 + c % 10) = true := by rw [← HS.out, his]; simp
        have ht2 : (i : Int) = 1 + c % 10 := by rw [← HS.out, his]
        have HT2 := Lib.hid ht2
        clear ht2 his
        go_wp2_with fail
        refine (seal_any w.heap.size b row st' _ hT hok).mono ?_
        rintro e w2 ⟨rfl, row', hT2, hr2, hF2⟩
        obtain ⟨he, hC2⟩ := cr_seal hC
        rw [he]
        have hb2 := hb.trans (hF2.belowT hT hb.size)
        generalize (sealF st').1 = st2 at *
        clear hT hC hok hF2 hr2 he
        by_cases hki : k ≤ i
        all_goals
          first | rw [show crE i k = 16 from if_pos hki] | rw [show crE i k = 0 from if_neg hki]
          go_wp2_with (first | (go_at_call 12; refine (num_any _ _).mono ?_; rintro e w' ⟨rfl, rfl⟩))
          go_roundw
          case rel => exact ⟨i + 1, st2, row', by omega, by omega, by go_num, hC2, hT2, hb2⟩
          case measure => simp [intOf]; omega
      · have ht : ((i : Int) == 1 + c % 10) = false := by rw [← HS.out]; simp; omega
        go_wp2_with fail
        have hA := (Below.refl wr.heap.size wr).alloc (Nat.le_refl _) (Obj.cells #[Value.string { data := #[121] }] 9)
        refine (add_any w.heap.size b row st' (i % 2) _ [⟨#[121]⟩] _ (hT.below hA) hok (Nat.le_trans hb.size hA.size) (.inr ⟨wr.heap.size, 0, 1, rfl, by simp, fun j hj => ?_⟩) (by decide) (by have := hC.size; have e : sizes [(⟨#[121]⟩ : ByteArray)] = 1 := rfl; omega)).mono ?_
        · have hj' : j = 0 := by have : j < 1 := hj; omega
          subst hj'
          exact blk_cell (blk_new wr (Obj.cells #[Value.string { data := #[121] }] 9)) 0
        rintro e w2 ⟨rfl, row', hT2, hr2, hF2⟩
        obtain ⟨he, hC2⟩ := cr_add hC (i % 2) (by omega) (by omega) (by omega)
        rw [he]
        have hb2 := (hb.trans (hA.mono hb.size)).trans (hF2.belowT (hT.below hA) (Nat.le_trans hb.size hA.size))
        generalize (addF st' (i % 2) [⟨#[121]⟩]).1 = st2 at *
        clear hT hC hok hF2 hr2 he hA
        by_cases hki : k ≤ i
        all_goals
          first | rw [show crE i k = 16 from if_pos hki] | rw [show crE i k = 0 from if_neg hki]
          go_wp2_with (first | (go_at_call 12; refine (num_any _ _).mono ?_; rintro e w' ⟨rfl, rfl⟩))
          go_roundw
          case rel => exact ⟨i + 1, st2, row', by omega, by omega, by go_num, hC2, hT2, hb2⟩
          case measure => simp [intOf]; omega
    · obtain rfl : i = 11 := by omega
      obtain ⟨hdn, hcl⟩ := hC.off (by omega)
      have HCL := Lib.hid hcl
      have hsd : sideF st' 1 = (⟨#[]⟩, 16) := by unfold sideF; rw [if_pos hdn]
      go_wp2_with fail
      refine (side_any w.heap.size b row st' 1 _ hT hok).mono ?_
      rintro e w2 ⟨rfl, hb2⟩
      rw [hsd]
      have hT2 := hT.below hb2
      have hbb := hb.trans (hb2.mono hb.size)
      clear hsd hT hb2 hcl
      go_wp2_with fail
      refine (down_any w.heap.size b row st' _ hT2).mono ?_
      rintro e w' ⟨rfl, rfl⟩
      rw [hdn]
      go_wp2_with (first | (go_at_call 12; refine (num_any _ _).mono ?_; rintro e w' ⟨rfl, rfl⟩))
      refine (calls_any w.heap.size b row st' _ hT2).mono ?_
      rintro e w' ⟨rfl, rfl⟩
      rw [HCL.out]
      go_wp2_with fail
      refine (awake_any _).mono ?_
      rintro e w3 ⟨rfl, hb3⟩
      have hbbb := hbb.trans (hb3.mono hbb.size)
      go_wp2
      go_ret
      exact ⟨rfl, hbbb⟩
end Go.Proofs.Ytallocndghjoeaa
