/- Numbers and texts of Go's library at this program. -/
import Derived.Test.YteopodohghnokaaGreatDoorWf
import Derived.Lib.Join
import Derived.Lib.AppendIntMem
namespace Go.Proofs.YteopodohghnokaaGreatDoor
open Go Go.Proofs Go.RowKit
set_option maxRecDepth 100000
set_option linter.unusedSimpArgs false
set_option linter.unusedVariables false
set_option maxHeartbeats 2000000

abbrev Tab (w : World) : Prop := Lib.TabIs Tryz.prog w "internal/strconv.uint64pow10" .u64 Lib.pow10Tab
theorem Tab.below {w w' : World} (h : Tab w) (hb : Below w.heap.size w w') : Tab w' := by
  have h1 : Lib.TabIs Tryz.prog w "internal/strconv.uint64pow10" .u64 Lib.pow10Tab := h
  show Lib.TabIs Tryz.prog w' "internal/strconv.uint64pow10" .u64 Lib.pow10Tab
  have hgn : Tryz.prog.globalNamed "internal/strconv.uint64pow10" = some 1 := by kernel_rfl
  unfold Lib.TabIs World.var? at h1 ⊢
  rw [hgn] at h1 ⊢
  simp only [Option.bind_some] at h1 ⊢
  cases hh : w.heap[1]? with
  | none => rw [hh] at h1; simp at h1
  | some o =>
    rw [hb.block 1 (Array.getElem?_eq_some_iff.1 hh).1]
    exact h1
theorem itoa_any (n : Int) (h0 : -9223372036854775808 ≤ n) (h1 : n ≤ 9223372036854775807) (w : World) (hg : Tab w) :
    Calls Tryz.prog 111 #[.int .i64 n] w fun e w' => e = .returned (.string ⟨(Lib.itoa n).toArray⟩) ∧ Below w.heap.size w w' :=
  (Tryz.strconv_Itoa n h0 h1 w hg).mono fun e w' ⟨he, k, os, hw⟩ => ⟨he, by rw [hw]; exact Lib.below_grow _ w (Nat.le_refl _) k os⟩
theorem digits_any (n : Int) (h0 : -2147483648 ≤ n) (h1 : n ≤ 2147483647) (w : World) : Calls Tryz.prog 16 #[.int .i64 n] w fun e w' => e = .returned (.string ⟨(Lib.itoa n).toArray⟩) ∧ Below w.heap.size w w' := by
  unfold Lib.itoa
  by_cases h : n < 0
  · rw [if_pos h]
    have := digits_neg n.natAbs (by omega) (by omega) w
    rwa [show -((n.natAbs : Nat) : Int) = n by omega] at this
  · rw [if_neg h]
    have := digits_pos n.toNat (by omega) w
    rwa [show ((n.toNat : Nat) : Int) = n by omega] at this
theorem joined4 (a b c d : ByteArray) (hs : a.size + b.size + c.size + d.size ≤ 400) (W : World) (B : Nat) (v : Value) (ho : W.ownsRow B 9 1 v 4 [.string a, .string b, .string c, .string d]) :
    Calls Tryz.prog 81 #[v] W fun e w' => e = .returned (.tuple #[.agg #[.int .i64 2, .int .i64 0, .string (a ++ b ++ c ++ d), .slice none 0 0], .int .i64 0]) ∧ Below W.heap.size W w' := by
  refine join4 a b c d (a ++ b ++ c ++ d) W B v ho hs fun W2 hb => ?_
  have ho2 := own_below ho hb
  rcases ho2.2 with ⟨_, h⟩ | ⟨g, cap, cur, rfl, hB, hg, hcap, _, _, _⟩
  · cases h
  have hlen : (Lib.join ([a, b, c, d].map (·.data.toList)) (⟨#[]⟩ : ByteArray).data.toList) = (a ++ b ++ c ++ d).data.toList := by
    simp [Lib.join, List.intercalate, List.intersperse, ByteArray.data_append]
  have := Tryz.strings_Join g 0 cap [a, b, c, d] ⟨#[]⟩ W2 (fun j x hx => by
    have hj : j < 4 := by have := (List.getElem?_eq_some_iff.1 hx).1; simpa using this
    rw [Nat.zero_add, ho2.cellAt j (by omega)]
    match j, hj, hx with
    | 0, _, hx => simp at hx; subst hx; rfl
    | 1, _, hx => simp at hx; subst hx; rfl
    | 2, _, hx => simp at hx; subst hx; rfl
    | 3, _, hx => simp at hx; subst hx; rfl) (bk_lt hg) (by simp) (by simpa using hcap) (by rw [hlen]; simp [ByteArray.size_append]; omega)
  rw [hlen] at this
  exact this
end Go.Proofs.YteopodohghnokaaGreatDoor
