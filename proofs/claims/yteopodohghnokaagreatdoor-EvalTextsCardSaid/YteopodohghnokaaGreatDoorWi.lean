/- What the text of EvalTexts is worth: the premises of its walk. -/
import Derived.Test.YteopodohghnokaaGreatDoorWh
namespace Go.Proofs.YteopodohghnokaaGreatDoor
open Go Go.Proofs Go.RowKit Go.Shelf
set_option maxRecDepth 100000
set_option linter.unusedSimpArgs false
set_option linter.unusedVariables false
set_option maxHeartbeats 4000000

theorem bytes_ref (x : ByteArray) (i : Nat) (hi : i < x.size) (h : Lib.indexByte x.data.toList 46 = i) (hne : x.toList ≠ [46]) (hA : nameP (x.extract 0 i) = true) (hB : nameP (x.extract (i + 1) x.size) = true) (hs : x.size ≤ 100) (W : World) :
    Calls Tryz.prog 106 #[.string x] W fun e w' => e = .returned (.bool true) ∧ Below W.heap.size W w' := by
  have hcut := fun W => cut_any x i hi h (by omega) hne W
  have h1 := fun W => lexname_any (x.extract 0 i) W (by rw [ByteArray.size_extract]; omega)
  have h2 := fun W => lexname_any (x.extract (i + 1) x.size) W (by rw [ByteArray.size_extract]; omega)
  rw [hA] at h1
  rw [hB] at h2
  exact ref_any x _ _ true true true hcut h1 h2 W
theorem name_var : nameP ((⟨#[118, 97, 114, 46, 110]⟩ : ByteArray).extract 0 3) = true := by
  have e : (⟨#[118, 97, 114, 46, 110]⟩ : ByteArray).extract 0 3 = ⟨#[118, 97, 114]⟩ := by rfl
  rw [e]
  unfold nameP
  rw [ByteArray.toList_eq]
  decide
theorem refN (W : World) : Calls Tryz.prog 106 #[.string ⟨#[118, 97, 114, 46, 110]⟩] W fun e w' => e = .returned (.bool true) ∧ Below W.heap.size W w' := by
  refine bytes_ref ⟨#[118, 97, 114, 46, 110]⟩ 3 (by decide) (by decide) (by rw [ByteArray.toList_eq]; decide) name_var ?_ (by decide) W
  have e : (⟨#[118, 97, 114, 46, 110]⟩ : ByteArray).extract (3 + 1) (⟨#[118, 97, 114, 46, 110]⟩ : ByteArray).size = ⟨#[110]⟩ := by rfl
  rw [e]
  unfold nameP
  rw [ByteArray.toList_eq]
  decide
theorem refB (W : World) : Calls Tryz.prog 106 #[.string ⟨#[118, 97, 114, 46, 98]⟩] W fun e w' => e = .returned (.bool true) ∧ Below W.heap.size W w' := by
  refine bytes_ref ⟨#[118, 97, 114, 46, 98]⟩ 3 (by decide) (by decide) (by rw [ByteArray.toList_eq]; decide) ?_ ?_ (by decide) W
  · have e : (⟨#[118, 97, 114, 46, 98]⟩ : ByteArray).extract 0 3 = ⟨#[118, 97, 114]⟩ := by rfl
    rw [e]
    unfold nameP
    rw [ByteArray.toList_eq]
    decide
  · have e : (⟨#[118, 97, 114, 46, 98]⟩ : ByteArray).extract (3 + 1) (⟨#[118, 97, 114, 46, 98]⟩ : ByteArray).size = ⟨#[98]⟩ := by rfl
    rw [e]
    unfold nameP
    rw [ByteArray.toList_eq]
    decide
/-- The two names among two binds. -/
theorem worthN (k m bv : Int) : worth ⟨#[118, 97, 114, 46, 110]⟩ [⟨⟨#[118, 97, 114, 46, 110]⟩, k, m, ⟨#[]⟩, none, 0, 0⟩, ⟨⟨#[118, 97, 114, 46, 98]⟩, 3, bv, ⟨#[]⟩, none, 0, 0⟩] = .tuple #[.agg #[.int .i64 k, .int .i64 m, .string ⟨#[]⟩, .slice none 0 0], .int .i64 0] := by
  unfold worth
  simp only [List.find?_cons, beq_self_eq_true, Bd.val]
theorem worthB (k m bv : Int) : worth ⟨#[118, 97, 114, 46, 98]⟩ [⟨⟨#[118, 97, 114, 46, 110]⟩, k, m, ⟨#[]⟩, none, 0, 0⟩, ⟨⟨#[118, 97, 114, 46, 98]⟩, 3, bv, ⟨#[]⟩, none, 0, 0⟩] = .tuple #[.agg #[.int .i64 3, .int .i64 bv, .string ⟨#[]⟩, .slice none 0 0], .int .i64 0] := by
  have h : ((⟨#[118, 97, 114, 46, 110]⟩ : ByteArray).toList == (⟨#[118, 97, 114, 46, 98]⟩ : ByteArray).toList) = false := by
    rw [ByteArray.toList_eq, ByteArray.toList_eq]
    decide
  unfold worth
  simp only [List.find?_cons, h, beq_self_eq_true, Bd.val]
/-- May the node be? -/
theorem plainG {w0 : World} {p : Nat} {s t : ByteArray} {bv : Int} (hse : s.toList.isEmpty = false) (hte : t.toList.isEmpty = false) (hs : s.size ≤ 60) (ht : t.size ≤ 60) (hcs : ∀ i, i < s.size → 32 ≤ bt s i) (hct : ∀ i, i < t.size → 32 ≤ bt t i) {W : World} (g : Gd w0 p s t bv W) :
    Calls Tryz.prog 78 #[.agg #[.int .i64 2, .int .i64 0, .string ⟨#[]⟩, .slice (some ⟨p, 0, none⟩) 4 4, .slice none 0 0]] W fun e w' => e = .returned (.bool true) ∧ Below W.heap.size W w' :=
  plain2 s t p 4 W g.pts fun W2 hp => parts4 s t p 4 W2 hp hse hte (fun W => printed_any s (by omega) hcs W) (fun W => printed_any t (by omega) hct W) refN refB
theorem exG {w0 : World} {p : Nat} {s t : ByteArray} {n bv : Int} {b : Bool} (hse : s.toList.isEmpty = false) (hte : t.toList.isEmpty = false) (hs : s.size ≤ 60) (ht : t.size ≤ 60) (hcs : ∀ i, i < s.size → 32 ≤ bt s i) (hct : ∀ i, i < t.size → 32 ≤ bt t i)
    (hn : -2147483648 ≤ n ∧ n ≤ 2147483647) (htab : ∀ W, Below w0.heap.size w0 W → Tab W) (hbv : bv = (if b then 1 else 0)) {W : World} {β1 : Nat} (g : Gd w0 p s t bv W)
    (hb : BdsAt W β1 0 [⟨⟨#[118, 97, 114, 46, 110]⟩, 1, n, ⟨#[]⟩, none, 0, 0⟩, ⟨⟨#[118, 97, 114, 46, 98]⟩, 3, bv, ⟨#[]⟩, none, 0, 0⟩]) :
    Calls Tryz.prog 10 #[.slice (some ⟨p + 1, 0, none⟩) 1 1, .slice (some ⟨β1, 0, none⟩) 2 2] W fun e w' => e = .returned (.tuple #[.agg #[.int .i64 2, .int .i64 0, .string (s ++ ⟨(Lib.itoa n).toArray⟩ ++ t ++ (if b then ⟨#[116, 114, 117, 101]⟩ else ⟨#[102, 97, 108, 115, 101]⟩)), .slice none 0 0], .int .i64 0]) ∧ Below W.heap.size W w' := by
  have hD := itoa_small n hn
  have hX : (if b then (⟨#[116, 114, 117, 101]⟩ : ByteArray) else ⟨#[102, 97, 108, 115, 101]⟩).size ≤ 5 := by cases b <;> decide
  refine expr_str [⟨⟨#[118, 97, 114, 46, 110]⟩, 1, n, ⟨#[]⟩, none, 0, 0⟩, ⟨⟨#[118, 97, 114, 46, 98]⟩, 3, bv, ⟨#[]⟩, none, 0, 0⟩] 2 0 0 _ ⟨#[]⟩ β1 0 2 (p + 1) 0 1 4 4 0 0 (some ⟨p, 0, none⟩) none W g.nd (fun W2 h2 => plainG hse hte hs ht hcs hct (g.below h2)) fun W2 h2 => ?_
  have g2 := g.below h2
  refine text4 s t ⟨(Lib.itoa n).toArray⟩ (if b then ⟨#[116, 114, 117, 101]⟩ else ⟨#[102, 97, 108, 115, 101]⟩) _ 1 n 3 bv _ p 4 β1 0 2 (p + 1) 0 1 W2 g2.pts (hb.below h2) (by simp) (worthN 1 n bv) (worthB 1 n bv) (fun W3 h3 => ?_) (fun W3 h3 => ?_) (fun W3 B v ho => joined4 s _ t _ (by omega) W3 B v ho)
  · refine textI n _ W3 fun W4 h4 => itoa_any n (by omega) (by omega) W4 (htab W4 ?_)
    exact ((g2.below h3).below h4).low
  · subst hbv
    exact textB b W3
theorem exL {w0 : World} {p : Nat} {s t : ByteArray} {bv : Int} (hse : s.toList.isEmpty = false) (hte : t.toList.isEmpty = false) (hs : s.size ≤ 60) (ht : t.size ≤ 60) (hcs : ∀ i, i < s.size → 32 ≤ bt s i) (hct : ∀ i, i < t.size → 32 ≤ bt t i)
    {W : World} {β1 : Nat} (g : Gd w0 p s t bv W) (hb : BdsAt W β1 0 [⟨⟨#[118, 97, 114, 46, 110]⟩, 4, 0, ⟨#[]⟩, none, 0, 0⟩, ⟨⟨#[118, 97, 114, 46, 98]⟩, 3, bv, ⟨#[]⟩, none, 0, 0⟩]) :
    Calls Tryz.prog 10 #[.slice (some ⟨p + 1, 0, none⟩) 1 1, .slice (some ⟨β1, 0, none⟩) 2 2] W fun e w' => e = .returned (.tuple #[.agg #[.int .i64 0, .int .i64 0, .string ⟨#[]⟩, .slice none 0 0], .int .i64 7]) ∧ Below W.heap.size W w' := by
  refine expr_str [⟨⟨#[118, 97, 114, 46, 110]⟩, 4, 0, ⟨#[]⟩, none, 0, 0⟩, ⟨⟨#[118, 97, 114, 46, 98]⟩, 3, bv, ⟨#[]⟩, none, 0, 0⟩] 0 0 7 _ ⟨#[]⟩ β1 0 2 (p + 1) 0 1 4 4 0 0 (some ⟨p, 0, none⟩) none W g.nd (fun W2 h2 => plainG hse hte hs ht hcs hct (g.below h2)) fun W2 h2 => ?_
  exact textbad s t _ p 4 β1 0 2 (p + 1) 0 1 W2 (g.below h2).pts (hb.below h2) (by simp) (worthN 4 0 bv)
/-- All of EvalTexts. -/
theorem Et_all (s : ByteArray) (t : ByteArray) (n : Int) (wn : (Lit.int .i32 n).wf = true) (b : Bool) (W : World) (htab : Tab W) :
    Calls Tryz.prog 5 #[.string s, .string t, .int .i32 n, .bool b] W fun e w' => e = .returned (.bool true) ∧ Below W.heap.size W w' := by
  have hn : -2147483648 ≤ n ∧ n ≤ 2147483647 := by simp [Lit.wf, IntKind.min, IntKind.max, IntKind.signed, IntKind.bits] at wn; omega
  refine texts_walk s t n hn b W htab (fun h1 h2 h3 h4 h5 h6 W2 p β1 m bv g hb hm hbv => ?_) (fun h1 h2 h3 h4 h5 h6 W2 p β1 bv g hb => exL h1 h2 h3 h4 h5 h6 g hb)
  subst hm
  exact exG h1 h2 h3 h4 h5 h6 hn (fun W3 h => htab.below h) hbv g hb
end Go.Proofs.YteopodohghnokaaGreatDoor
