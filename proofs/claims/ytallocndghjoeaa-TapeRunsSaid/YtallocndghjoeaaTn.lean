/- Calls of a tape that does not fall, packed. -/
import Derived.Test.YtallocndghjoeaaTm
namespace Go.Proofs.Ytallocndghjoeaa
open Go.RowKit Go.Proofs.YtallocndghjoeaaW.PrintWords

theorem strs_one (W : World) (s : ByteArray) : StrsAt (W.alloc (Obj.cells #[.string s] 9)) (.slice (some ⟨W.heap.size, 0, none⟩) 1 1) [s] := by
  refine .inr ⟨W.heap.size, 0, 1, rfl, by simp, fun j hj => ?_⟩
  have hj' : j = 0 := by have : j < 1 := hj; omega
  subst hj'
  exact blk_cell (blk_new W (Obj.cells #[.string s] 9)) 0

theorem add1_any (base b : Nat) (row : Option Nat) (st : TapeSt) (n : Int) (s : ByteArray) (W : World) (hT : TapeAt W base b row st) (hok : st.Ok) (hbs : base ≤ W.heap.size) (hsz : st.s0.size + st.s1.size + mores st.loose + s.size ≤ 1000000000000) :
    Calls Try.prog 9 #[.pointer (some ⟨b, 0, none⟩), .int .i64 n, .slice (some ⟨W.heap.size, 0, none⟩) 1 1] (W.alloc (Obj.cells #[.string s] 9))
      fun e w' => e = .returned (.int .i64 (addF st n [s]).2) ∧ ∃ row', TapeAt w' base b row' (addF st n [s]).1 ∧ Below base W w' := by
  have hA := (Below.refl W.heap.size W).alloc (Nat.le_refl _) (Obj.cells #[.string s] 9)
  refine (add_any base b row st n _ [s] _ (hT.below hA) hok (Nat.le_trans hbs hA.size) (strs_one W s) (by simp) (by rw [show sizes [s] = s.size by simp [sizes]]; exact hsz)).mono ?_
  rintro e w2 ⟨rfl, row', hT2, _, hF2⟩
  exact ⟨rfl, row', hT2, (hA.mono hbs).trans (hF2.belowT (hT.below hA) (Nat.le_trans hbs hA.size))⟩

theorem add1_full (base b : Nat) (row : Option Nat) (st : TapeSt) (r : Int) (now : ByteArray × ByteArray) (B c : Nat) (n : Int) (s : ByteArray) (W : World) (hT : TapeAt W base b row st) (hG : Good st r now B c) (h0 : 0 ≤ n) (h1 : n < 2)
    (hr : r < ((withF now.1 now.2 n false s).1.size : Int) + (withF now.1 now.2 n false s).2.size) (hB : B + s.size ≤ 1000000000000) (hc : c ≤ 1000000000) (hbs : base ≤ W.heap.size) :
    Calls Try.prog 9 #[.pointer (some ⟨b, 0, none⟩), .int .i64 n, .slice (some ⟨W.heap.size, 0, none⟩) 1 1] (W.alloc (Obj.cells #[.string s] 9))
      fun e w' => e = .returned (.int .i64 15) ∧ ∃ row', TapeAt w' base b row' st ∧ Below base W w' := by
  have e := good_add_full hG n h0 h1 [s] (by rw [cat_one]; exact hr)
  have := add1_any base b row st n s W hT (hG.ok (by omega) hc) hbs (by have := hG.size; omega)
  rw [e] at this
  exact this

theorem add1_ok (base b : Nat) (row : Option Nat) (st : TapeSt) (r : Int) (now : ByteArray × ByteArray) (B c : Nat) (n : Int) (s : ByteArray) (W : World) (hT : TapeAt W base b row st) (hG : Good st r now B c) (h0 : 0 ≤ n) (h1 : n < 2)
    (hr : ((withF now.1 now.2 n false s).1.size : Int) + (withF now.1 now.2 n false s).2.size ≤ r) (hB : B + s.size ≤ 1000000000000) (hc : c ≤ 1000000000) (hbs : base ≤ W.heap.size) :
    Calls Try.prog 9 #[.pointer (some ⟨b, 0, none⟩), .int .i64 n, .slice (some ⟨W.heap.size, 0, none⟩) 1 1] (W.alloc (Obj.cells #[.string s] 9))
      fun e w' => e = .returned (.int .i64 0) ∧ ∃ st' row', TapeAt w' base b row' st' ∧ Good st' r (withF now.1 now.2 n false s) (B + s.size) (c + 1) ∧ Below base W w' := by
  obtain ⟨e1, e2⟩ := good_add hG n h0 h1 [s] (by rw [cat_one]; exact hr)
  rw [cat_one, show sizes [s] = s.size by simp [sizes]] at e2
  refine (add1_any base b row st n s W hT (hG.ok (by omega) hc) hbs (by have := hG.size; omega)).mono ?_
  rintro e w' ⟨rfl, row', hT', hb⟩
  exact ⟨by rw [e1], _, row', hT', e2, hb⟩

theorem wipe_good (base b : Nat) (row : Option Nat) (st : TapeSt) (r : Int) (now : ByteArray × ByteArray) (B c : Nat) (n : Int) (W : World) (hT : TapeAt W base b row st) (hG : Good st r now B c) (h0 : 0 ≤ n) (h1 : n < 2)
    (hB : B ≤ 1000000000000) (hc : c ≤ 1000000000) (hbs : base ≤ W.heap.size) :
    Calls Try.prog 13 #[.pointer (some ⟨b, 0, none⟩), .int .i64 n] W
      fun e w' => e = .returned (.int .i64 0) ∧ ∃ st' row', TapeAt w' base b row' st' ∧ Good st' r (withF now.1 now.2 n true ⟨#[]⟩) B (c + 1) ∧ Below base W w' := by
  obtain ⟨e1, e2⟩ := good_wipe hG n h0 h1
  refine (wipe_any base b row st n W hT (hG.ok hB hc) hbs).mono ?_
  rintro e w' ⟨rfl, row', hT', _, hF⟩
  exact ⟨by rw [e1], _, row', hT', e2, hF.belowT hT hbs⟩

theorem side_good (base b : Nat) (row : Option Nat) (st : TapeSt) (r : Int) (now : ByteArray × ByteArray) (B c : Nat) (n : Int) (W : World) (hT : TapeAt W base b row st) (hG : Good st r now B c) (h0 : 0 ≤ n) (h1 : n < 2)
    (hB : B ≤ 1000000000000) (hc : c ≤ 1000000000) (hbs : base ≤ W.heap.size) :
    Calls Try.prog 11 #[.pointer (some ⟨b, 0, none⟩), .int .i64 n] W
      fun e w' => e = .returned (.tuple #[.string (if n = 0 then now.1 else now.2), .int .i64 0]) ∧ TapeAt w' base b row st ∧ Below base W w' := by
  refine (side_any base b row st n W hT (hG.ok hB hc)).mono ?_
  rintro e w' ⟨rfl, hb⟩
  rw [good_side hG n h0 h1]
  exact ⟨rfl, hT.below hb, hb.mono hbs⟩
end Go.Proofs.Ytallocndghjoeaa
