/- EvalTexts: the walk, over what its two expressions are worth. -/
import Derived.Test.YteopodohghnokaaGreatDoorWg
import Derived.Test.YteopodohghnokaaGreatDoorVg
import Derived.Test.YteopodohghnokaaGreatDoorVm
namespace Go.Proofs.YteopodohghnokaaGreatDoor
open Go Go.Proofs Go.RowKit Go.Shelf
set_option maxRecDepth 100000
set_option linter.unusedSimpArgs false
set_option linter.unusedVariables false
set_option maxHeartbeats 4000000

/-- What lies behind the first lines: four parts, their node, one bind. -/
structure Gd (w0 : World) (p : Nat) (s t : ByteArray) (bv : Int) (W : World) : Prop where
  low : Below w0.heap.size w0 W
  kp : W.heap[p]? = some (.cells #[.bool false, .string s, .bool true, .string ⟨#[118, 97, 114, 46, 110]⟩, .bool false, .string t, .bool true, .string ⟨#[118, 97, 114, 46, 98]⟩] 48)
  kn : W.heap[p + 1]? = some (.cells #[.int .i64 2, .int .i64 0, .string ⟨#[]⟩, .slice (some ⟨p, 0, none⟩) 4 4, .slice none 0 0] 29)
  kb : W.heap[p + 1 + 1]? = some (.cells #[.string ⟨#[118, 97, 114, 46, 98]⟩, .int .i64 3, .int .i64 bv, .string ⟨#[]⟩, .slice none 0 0] 43)
theorem Gd.below {w0 : World} {p : Nat} {s t : ByteArray} {bv : Int} {W W' : World} (h : Gd w0 p s t bv W) (hb : Below W.heap.size W W') : Gd w0 p s t bv W' :=
  ⟨h.low.trans (hb.mono h.low.size), bk_below h.kp hb, bk_below h.kn hb, bk_below h.kb hb⟩
theorem Gd.alloc {w0 : World} {p : Nat} {s t : ByteArray} {bv : Int} {W : World} (h : Gd w0 p s t bv W) (o : Obj) : Gd w0 p s t bv (W.alloc o) := h.below ((Below.refl _ _).alloc (Nat.le_refl _) _)
theorem Gd.drew {w0 : World} {p : Nat} {s t : ByteArray} {bv : Int} {W : World} (h : Gd w0 p s t bv W) : Gd w0 p s t bv W.drew := h.below (Below.refl _ _).drew
theorem Gd.set {w0 : World} {p : Nat} {s t : ByteArray} {bv : Int} {W : World} (h : Gd w0 p s t bv W) (q i : Nat) (v : Value) (hq : p + 1 + 1 < q) (h0 : w0.heap.size ≤ q) : Gd w0 p s t bv (W.setCell ⟨q, i, none⟩ v) :=
  ⟨h.low.setCell (p := ⟨q, i, none⟩) h0 _, (Below.heap_setCell W ⟨q, i, none⟩ v _ (by simp only; omega)).trans h.kp, (Below.heap_setCell W ⟨q, i, none⟩ v _ (by simp only; omega)).trans h.kn, (Below.heap_setCell W ⟨q, i, none⟩ v _ (by simp only; omega)).trans h.kb⟩
theorem Gd.one {w0 : World} {p : Nat} {s t : ByteArray} {W : World} (h : Gd w0 p s t 0 W) (h0 : w0.heap.size ≤ p) : Gd w0 p s t 1 (W.setCell ⟨p + 1 + 1, 2, none⟩ (.int .i64 1)) :=
  ⟨h.low.setCell (p := ⟨p + 1 + 1, 2, none⟩) (by simp only; omega) _, (Below.heap_setCell W ⟨p + 1 + 1, 2, none⟩ _ _ (by simp only; omega)).trans h.kp, (Below.heap_setCell W ⟨p + 1 + 1, 2, none⟩ _ _ (by simp only; omega)).trans h.kn,
    by simp [World.setCell, Array.getElem?_modify, h.kb]⟩
theorem Gd.pts {w0 : World} {p : Nat} {s t : ByteArray} {bv : Int} {W : World} (h : Gd w0 p s t bv W) : PtsAt W p 0 s t :=
  ⟨(bk_cell h.kp 0).trans rfl, (bk_cell h.kp 1).trans rfl, (bk_cell h.kp 2).trans rfl, (bk_cell h.kp 3).trans rfl, (bk_cell h.kp 4).trans rfl, (bk_cell h.kp 5).trans rfl, (bk_cell h.kp 6).trans rfl, (bk_cell h.kp 7).trans rfl⟩
theorem Gd.nd {w0 : World} {p : Nat} {s t : ByteArray} {bv : Int} {W : World} (h : Gd w0 p s t bv W) : NdAt W (p + 1) 0 2 0 ⟨#[]⟩ (some ⟨p, 0, none⟩) none 4 4 0 0 :=
  ⟨(bk_cell h.kn 0).trans rfl, (bk_cell h.kn 1).trans rfl, (bk_cell h.kn 2).trans rfl, (bk_cell h.kn 3).trans rfl, (bk_cell h.kn 4).trans rfl⟩
theorem Gd.bd {w0 : World} {p : Nat} {s t : ByteArray} {bv : Int} {W : World} (h : Gd w0 p s t bv W) : W.cell? ⟨p + 1 + 1, 0, none⟩ = some (.string ⟨#[118, 97, 114, 46, 98]⟩) ∧ W.cell? ⟨p + 1 + 1, 1, none⟩ = some (.int .i64 3) ∧ W.cell? ⟨p + 1 + 1, 2, none⟩ = some (.int .i64 bv) ∧ W.cell? ⟨p + 1 + 1, 3, none⟩ = some (.string ⟨#[]⟩) ∧ W.cell? ⟨p + 1 + 1, 4, none⟩ = some (.slice none 0 0) :=
  ⟨(bk_cell h.kb 0).trans rfl, (bk_cell h.kb 1).trans rfl, (bk_cell h.kb 2).trans rfl, (bk_cell h.kb 3).trans rfl, (bk_cell h.kb 4).trans rfl⟩
theorem bk_set {w : World} {g : Nat} {t : TypeId} {cs : Array Value} (h : w.heap[g]? = some (.cells cs t (0, 0))) (i : Nat) (u : Value) : (w.setCell ⟨g, i, none⟩ u).heap[g]? = some (.cells (cs.setIfInBounds i u) t (0, 0)) := by
  simp [World.setCell, Array.getElem?_modify, h]
/-- Two binds side by side, the first a list. -/
theorem two_list (bv : Int) (Y : World) : BdsAt (Y.alloc (.cells #[.string ⟨#[118, 97, 114, 46, 110]⟩, .int .i64 4, .int .i64 0, .string ⟨#[]⟩, .slice none 0 0, .string ⟨#[118, 97, 114, 46, 98]⟩, .int .i64 3, .int .i64 bv, .string ⟨#[]⟩, .slice none 0 0] 43)) Y.heap.size 0
    [⟨⟨#[118, 97, 114, 46, 110]⟩, 4, 0, ⟨#[]⟩, none, 0, 0⟩, ⟨⟨#[118, 97, 114, 46, 98]⟩, 3, bv, ⟨#[]⟩, none, 0, 0⟩] := fun i q hq => by
  have kl := bk_new Y (.cells #[.string ⟨#[118, 97, 114, 46, 110]⟩, .int .i64 4, .int .i64 0, .string ⟨#[]⟩, .slice none 0 0, .string ⟨#[118, 97, 114, 46, 98]⟩, .int .i64 3, .int .i64 bv, .string ⟨#[]⟩, .slice none 0 0] 43)
  match i, hq with
  | 0, hq => cases hq; exact ⟨(bk_cell kl 0).trans rfl, (bk_cell kl 1).trans rfl, (bk_cell kl 2).trans rfl, (bk_cell kl 3).trans rfl, (bk_cell kl 4).trans rfl⟩
  | 1, hq => cases hq; exact ⟨(bk_cell kl 5).trans rfl, (bk_cell kl 6).trans rfl, (bk_cell kl 7).trans rfl, (bk_cell kl 8).trans rfl, (bk_cell kl 9).trans rfl⟩
  | i + 2, hq => simp at hq
/-- Two binds side by side. -/
theorem two_new (m bv : Int) (Y : World) : BdsAt (Y.alloc (.cells #[.string ⟨#[118, 97, 114, 46, 110]⟩, .int .i64 1, .int .i64 m, .string ⟨#[]⟩, .slice none 0 0, .string ⟨#[118, 97, 114, 46, 98]⟩, .int .i64 3, .int .i64 bv, .string ⟨#[]⟩, .slice none 0 0] 43)) Y.heap.size 0
    [⟨⟨#[118, 97, 114, 46, 110]⟩, 1, m, ⟨#[]⟩, none, 0, 0⟩, ⟨⟨#[118, 97, 114, 46, 98]⟩, 3, bv, ⟨#[]⟩, none, 0, 0⟩] := fun i q hq => by
  have kl := bk_new Y (.cells #[.string ⟨#[118, 97, 114, 46, 110]⟩, .int .i64 1, .int .i64 m, .string ⟨#[]⟩, .slice none 0 0, .string ⟨#[118, 97, 114, 46, 98]⟩, .int .i64 3, .int .i64 bv, .string ⟨#[]⟩, .slice none 0 0] 43)
  match i, hq with
  | 0, hq => cases hq; exact ⟨(bk_cell kl 0).trans rfl, (bk_cell kl 1).trans rfl, (bk_cell kl 2).trans rfl, (bk_cell kl 3).trans rfl, (bk_cell kl 4).trans rfl⟩
  | 1, hq => cases hq; exact ⟨(bk_cell kl 5).trans rfl, (bk_cell kl 6).trans rfl, (bk_cell kl 7).trans rfl, (bk_cell kl 8).trans rfl, (bk_cell kl 9).trans rfl⟩
  | i + 2, hq => simp at hq
theorem stored {w0 : World} {p : Nat} {s t : ByteArray} {bv : Int} {W : World} (g : Gd w0 p s t bv W) {q : Nat} (hz : W.heap[q]? = some (Obj.cells #[Value.int IntKind.i64 0, Value.int IntKind.i64 0, Value.string ⟨#[]⟩, Value.slice none 0 0] 33)) (hq : p + 1 + 1 < q) (X : ByteArray) (h0 : w0.heap.size ≤ p) :
    Gd w0 p s t bv ((((W.setCell ⟨q, 0, none⟩ (.int .i64 2)).setCell ⟨q, 1, none⟩ (.int .i64 0)).setCell ⟨q, 2, none⟩ (.string X)).setCell ⟨q, 3, none⟩ (.slice none 0 0)) ∧
    ((((W.setCell ⟨q, 0, none⟩ (.int .i64 2)).setCell ⟨q, 1, none⟩ (.int .i64 0)).setCell ⟨q, 2, none⟩ (.string X)).setCell ⟨q, 3, none⟩ (.slice none 0 0)).heap[q]? = some (.cells #[.int .i64 2, .int .i64 0, .string X, .slice none 0 0] 33) := by
  have h : w0.heap.size ≤ q := by omega
  refine ⟨(((g.set q 0 _ hq h).set q 1 _ hq h).set q 2 _ hq h).set q 3 _ hq h, ?_⟩
  have := bk_set (bk_set (bk_set (bk_set hz 0 (.int .i64 2)) 1 (.int .i64 0)) 2 (.string X)) 3 (.slice none 0 0)
  exact this
theorem two_of {w0 : World} {p : Nat} {s t : ByteArray} {b0 : Int} {W : World} (h : Gd w0 p s t b0 W) (bv : Int) : BdsAt (W.alloc (.cells #[.string ⟨#[118, 97, 114, 46, 110]⟩, .int .i64 4, .int .i64 0, .string ⟨#[]⟩, .slice none 0 0, .string ⟨#[118, 97, 114, 46, 98]⟩, .int .i64 3, .int .i64 bv, .string ⟨#[]⟩, .slice none 0 0] 43)) W.heap.size 0
    [⟨⟨#[118, 97, 114, 46, 110]⟩, 4, 0, ⟨#[]⟩, none, 0, 0⟩, ⟨⟨#[118, 97, 114, 46, 98]⟩, 3, bv, ⟨#[]⟩, none, 0, 0⟩] := two_list bv W
theorem decDigits_small : ∀ (k n : Nat), n < 10 ^ (k + 1) → (Lib.decDigits n).length ≤ k + 1
  | 0, n, h => by rw [Lib.decDigits, dif_pos (by omega)]; simp
  | k + 1, n, h => by
    rw [Lib.decDigits]
    split
    · simp
    · have := decDigits_small k (n / 10) (by rw [Nat.pow_succ] at h; omega)
      rw [List.length_append]
      simp
      omega
theorem itoa_small (n : Int) (h : -2147483648 ≤ n ∧ n ≤ 2147483647) : (⟨(Lib.itoa n).toArray⟩ : ByteArray).size ≤ 100 := by
  show (Lib.itoa n).toArray.size ≤ 100
  rw [List.size_toArray]
  unfold Lib.itoa
  split
  · have := decDigits_small 9 n.natAbs (by have : (10 : Nat) ^ (9 + 1) = 10000000000 := rfl; omega)
    simp; omega
  · have := decDigits_small 9 n.toNat (by have : (10 : Nat) ^ (9 + 1) = 10000000000 := rfl; omega)
    omega
theorem texts_walk (s t : ByteArray) (n : Int) (hn : -2147483648 ≤ n ∧ n ≤ 2147483647) (b : Bool) (w : World) (htab : Tab w)
    (hex : s.toList.isEmpty = false → t.toList.isEmpty = false → s.size ≤ 60 → t.size ≤ 60 → (∀ i, i < s.size → 32 ≤ bt s i) → (∀ i, i < t.size → 32 ≤ bt t i) → ∀ (W : World) (p β1 : Nat) (m bv : Int), Gd w p s t bv W → BdsAt W β1 0 [⟨⟨#[118, 97, 114, 46, 110]⟩, 1, m, ⟨#[]⟩, none, 0, 0⟩, ⟨⟨#[118, 97, 114, 46, 98]⟩, 3, bv, ⟨#[]⟩, none, 0, 0⟩] → m = n → bv = (if b then 1 else 0) →
      Calls Tryz.prog 10 #[.slice (some ⟨p + 1, 0, none⟩) 1 1, .slice (some ⟨β1, 0, none⟩) 2 2] W fun e w' => e = .returned (.tuple #[.agg #[.int .i64 2, .int .i64 0, .string (s ++ ⟨(Lib.itoa n).toArray⟩ ++ t ++ (if b then ⟨#[116, 114, 117, 101]⟩ else ⟨#[102, 97, 108, 115, 101]⟩)), .slice none 0 0], .int .i64 0]) ∧ Below W.heap.size W w')
    (hexl : s.toList.isEmpty = false → t.toList.isEmpty = false → s.size ≤ 60 → t.size ≤ 60 → (∀ i, i < s.size → 32 ≤ bt s i) → (∀ i, i < t.size → 32 ≤ bt t i) → ∀ (W : World) (p β1 : Nat) (bv : Int), Gd w p s t bv W → BdsAt W β1 0 [⟨⟨#[118, 97, 114, 46, 110]⟩, 4, 0, ⟨#[]⟩, none, 0, 0⟩, ⟨⟨#[118, 97, 114, 46, 98]⟩, 3, bv, ⟨#[]⟩, none, 0, 0⟩] →
      Calls Tryz.prog 10 #[.slice (some ⟨p + 1, 0, none⟩) 1 1, .slice (some ⟨β1, 0, none⟩) 2 2] W fun e w' => e = .returned (.tuple #[.agg #[.int .i64 0, .int .i64 0, .string ⟨#[]⟩, .slice none 0 0], .int .i64 7]) ∧ Below W.heap.size W w') :
    Calls Tryz.prog 5 #[.string s, .string t, .int .i32 n, .bool b] w fun e w' => e = .returned (.bool true) ∧ Below w.heap.size w w' := by
  have HA := Lib.hid (fun W => awake_any W)
  have HT := Lib.hid htab
  have HN := Lib.hid hn
  have HEX := Lib.hid hex
  have HEG := Lib.hid hexl
  clear htab hn hex hexl
  go_enter Tryz.func5, Tryz.ntmps5
  by_cases hs60 : (60 : Int) < s.size
  · go_wp2_with fail
    refine (HA.out _).mono ?_
    rintro e w2 ⟨rfl, hb2⟩
    go_wp2_with fail
    go_ret
    exact ⟨rfl, hb2⟩
  by_cases ht60 : (60 : Int) < t.size
  · go_wp2_with fail
    refine (HA.out _).mono ?_
    rintro e w2 ⟨rfl, hb2⟩
    go_wp2_with fail
    go_ret
    exact ⟨rfl, hb2⟩
  obtain ⟨se, hse⟩ : ∃ x, s.toList.isEmpty = x := ⟨_, rfl⟩
  cases se
  rotate_left
  · go_wp2_with fail
    refine (HA.out _).mono ?_
    rintro e w2 ⟨rfl, hb2⟩
    go_wp2_with fail
    go_ret
    exact ⟨rfl, hb2⟩
  obtain ⟨te, hte⟩ : ∃ x, t.toList.isEmpty = x := ⟨_, rfl⟩
  cases te
  rotate_left
  · go_wp2_with fail
    refine (HA.out _).mono ?_
    rintro e w2 ⟨rfl, hb2⟩
    go_wp2_with fail
    go_ret
    exact ⟨rfl, hb2⟩
  go_wp2_with fail
  have HS60 := Lib.hid hs60
  have HT60 := Lib.hid ht60
  have HSE := Lib.hid hse
  have HTE := Lib.hid hte
  clear hs60 ht60 hse hte
  go_loopw [9] (fun iv wr => ∃ i : Nat, i ≤ s.size ∧ iv = .int .i64 i ∧ wr = w ∧ RowKit.Hid (∀ j, j < i → 32 ≤ bt s j)) (fun iv _ => s.size - (intOf iv).toNat)
  case atStart => exact ⟨0, by omega, rfl, rfl, Lib.hid fun j hj => by omega⟩
  case round =>
    obtain ⟨i, hi, rfl, hw, HC⟩ := hrel
    subst hw
    by_cases hlt : i < s.size
    · have hbi := bt_at hlt
      have hlt' : (i : Int) < s.size := by omega
      have hz60 : s.size ≤ 60 := by have := HS60.out; omega
      by_cases h32 : bt s i < 32
      · go_wp2_with fail
        refine (HA.out _).mono ?_
        rintro e w2 ⟨rfl, hb2⟩
        go_wp2_with fail
        go_ret
        exact ⟨rfl, hb2⟩
      · go_wp2_with fail
        go_roundw
        case rel => exact ⟨i + 1, by omega, by go_num, by simp, Lib.hid fun j hj => by
          by_cases e : j = i
          · subst e; omega
          · exact HC.out j (by omega)⟩
        case measure => simp [intOf]; omega
    · obtain rfl : i = s.size := by omega
      go_wp2_with fail
      go_loopw [10] (fun iv w2 => ∃ i : Nat, i ≤ t.size ∧ iv = .int .i64 i ∧ w2 = wr ∧ RowKit.Hid (∀ j, j < i → 32 ≤ bt t j)) (fun iv _ => t.size - (intOf iv).toNat)
      case atStart => exact ⟨0, by omega, rfl, rfl, Lib.hid fun j hj => by omega⟩
      case round =>
        obtain ⟨i, hi, rfl, hw, HC2⟩ := hrel
        subst hw
        by_cases hlt : i < t.size
        · have hbi := bt_at hlt
          have hlt' : (i : Int) < t.size := by omega
          have hz60 : t.size ≤ 60 := by have := HT60.out; omega
          by_cases h32 : bt t i < 32
          · go_wp2_with fail
            refine (HA.out _).mono ?_
            rintro e w2 ⟨rfl, hb2⟩
            go_wp2_with fail
            go_ret
            exact ⟨rfl, hb2⟩
          · go_wp2_with fail
            go_roundw
            case rel => exact ⟨i + 1, by omega, by go_num, by simp, Lib.hid fun j hj => by
              by_cases e : j = i
              · subst e; omega
              · exact HC2.out j (by omega)⟩
            case measure => simp [intOf]; omega
        · obtain rfl : i = t.size := by omega
          have en : wrap64 n = n := by unfold wrap64; have := HN.out; omega
          go_wp2_with fail
          obtain ⟨D, hD⟩ : ∃ D : ByteArray, D = ⟨(Lib.itoa n).toArray⟩ := ⟨_, rfl⟩
          have hDs : D.size ≤ 100 := by rw [hD]; exact itoa_small n HN.out
          obtain ⟨W1, hW1⟩ : ∃ W1, W1 = (((wr.alloc (Obj.cells #[Value.bool false, Value.string s, Value.bool true, Value.string ⟨#[118, 97, 114, 46, 110]⟩, Value.bool false, Value.string t, Value.bool true, Value.string ⟨#[118, 97, 114, 46, 98]⟩] 48)).alloc
            (Obj.cells #[Value.int IntKind.i64 2, Value.int IntKind.i64 0, Value.string ⟨#[]⟩, Value.slice (some ⟨wr.heap.size, 0, none⟩) 4 4, Value.slice none 0 0] 29)).alloc
            (Obj.cells #[Value.string ⟨#[118, 97, 114, 46, 98]⟩, Value.int IntKind.i64 3, Value.int IntKind.i64 0, Value.string ⟨#[]⟩, Value.slice none 0 0] 43)) := ⟨_, rfl⟩
          have hb1 : Below wr.heap.size wr W1 := by rw [hW1]; exact (((Below.refl _ _).alloc (Nat.le_refl _) _).alloc (by simp) _).alloc (by simp; omega) _
          have kp : W1.heap[wr.heap.size]? = some (.cells #[Value.bool false, Value.string s, Value.bool true, Value.string ⟨#[118, 97, 114, 46, 110]⟩, Value.bool false, Value.string t, Value.bool true, Value.string ⟨#[118, 97, 114, 46, 98]⟩] 48) := by rw [hW1]; exact bk_alloc (bk_alloc (bk_new _ _) _) _
          have kn : W1.heap[wr.heap.size + 1]? = some (.cells #[Value.int IntKind.i64 2, Value.int IntKind.i64 0, Value.string ⟨#[]⟩, Value.slice (some ⟨wr.heap.size, 0, none⟩) 4 4, Value.slice none 0 0] 29) := by
            rw [hW1]; refine bk_alloc ?_ _
            have := bk_new (wr.alloc (Obj.cells #[Value.bool false, Value.string s, Value.bool true, Value.string ⟨#[118, 97, 114, 46, 110]⟩, Value.bool false, Value.string t, Value.bool true, Value.string ⟨#[118, 97, 114, 46, 98]⟩] 48)) (Obj.cells #[Value.int IntKind.i64 2, Value.int IntKind.i64 0, Value.string ⟨#[]⟩, Value.slice (some ⟨wr.heap.size, 0, none⟩) 4 4, Value.slice none 0 0] 29)
            rw [World.size_alloc] at this; exact this
          have kb : W1.heap[wr.heap.size + 1 + 1]? = some (.cells #[Value.string ⟨#[118, 97, 114, 46, 98]⟩, Value.int IntKind.i64 3, Value.int IntKind.i64 0, Value.string ⟨#[]⟩, Value.slice none 0 0] 43) := by
            rw [hW1]
            have := bk_new ((wr.alloc (Obj.cells #[Value.bool false, Value.string s, Value.bool true, Value.string ⟨#[118, 97, 114, 46, 110]⟩, Value.bool false, Value.string t, Value.bool true, Value.string ⟨#[118, 97, 114, 46, 98]⟩] 48)).alloc (Obj.cells #[Value.int IntKind.i64 2, Value.int IntKind.i64 0, Value.string ⟨#[]⟩, Value.slice (some ⟨wr.heap.size, 0, none⟩) 4 4, Value.slice none 0 0] 29)) (Obj.cells #[Value.string ⟨#[118, 97, 114, 46, 98]⟩, Value.int IntKind.i64 3, Value.int IntKind.i64 0, Value.string ⟨#[]⟩, Value.slice none 0 0] 43)
            rw [World.size_alloc, World.size_alloc] at this; exact this
          rw [← hW1]
          have HB1 := Lib.hid hb1
          have KP := Lib.hid kp
          have KN := Lib.hid kn
          have KB := Lib.hid kb
          have DG := Lib.hid (show ∀ W, Calls Tryz.prog 16 #[.int .i64 n] W fun e w' => e = .returned (.string D) ∧ Below W.heap.size W w' from fun W => by rw [hD]; exact digits_any n HN.out.1 HN.out.2 W)
          clear hW1 hb1 kp kn kb
          have HDD := Lib.hid hD
          clear hD
          refine (DG.out _).mono ?_
          rintro e w3 ⟨rfl, hb3⟩
          have HB3 := Lib.hid hb3
          have hz1 : s.size ≤ 60 := by have := HS60.out; omega
          have hz2 : t.size ≤ 60 := by have := HT60.out; omega
          have y1 : s.size + D.size ≤ 9223372036854775807 := by omega
          have y2 : (s ++ D).size + t.size ≤ 9223372036854775807 := by rw [ByteArray.size_append]; omega
          have y3 : (s ++ D ++ t).size + 5 ≤ 9223372036854775807 := by rw [ByteArray.size_append, ByteArray.size_append]; omega
          have y4 : (s ++ D ++ t).size + 4 ≤ 9223372036854775807 := by rw [ByteArray.size_append, ByteArray.size_append]; omega
          clear hb3
          have G3 : RowKit.Hid (Gd wr wr.heap.size s t 0 w3) := Lib.hid (Gd.below ⟨HB1.out, KP.out, KN.out, KB.out⟩ HB3.out)
          clear KP KN KB HB1 HB3
          have HEX := Lib.hid (HEX.out HSE.out HTE.out (by have := HS60.out; omega) (by have := HT60.out; omega) HC.out HC2.out)
          have HEG := Lib.hid (HEG.out HSE.out HTE.out (by have := HS60.out; omega) (by have := HT60.out; omega) HC.out HC2.out)
          have ew : IntKind.i64.wrap n = n := by simp [IntKind.wrap, IntKind.bits, IntKind.signed]; have := HN.out; omega
          cases b
          · obtain ⟨z0, z1, z2, z3, z4⟩ := G3.out.bd
            obtain ⟨a0, a1, a2, a3, a4⟩ := (G3.out.alloc (Obj.cells #[Value.int IntKind.i64 0, Value.int IntKind.i64 0, Value.string ⟨#[]⟩, Value.slice none 0 0] 33)).bd
            go_wp2_with fail
            have HEF : RowKit.Hid (∀ (W : World) (β1 : Nat), Gd wr wr.heap.size s t 0 W → BdsAt W β1 0 [⟨⟨#[118, 97, 114, 46, 110]⟩, 1, n, ⟨#[]⟩, none, 0, 0⟩, ⟨⟨#[118, 97, 114, 46, 98]⟩, 3, 0, ⟨#[]⟩, none, 0, 0⟩] →
                Calls Tryz.prog 10 #[.slice (some ⟨wr.heap.size + 1, 0, none⟩) 1 1, .slice (some ⟨β1, 0, none⟩) 2 2] W fun e w' => e = .returned (.tuple #[.agg #[.int .i64 2, .int .i64 0, .string (s ++ D ++ t ++ ⟨#[102, 97, 108, 115, 101]⟩), .slice none 0 0], .int .i64 0]) ∧ Below W.heap.size W w') := Lib.hid fun W β1 g hb => by
              have := HEX.out W wr.heap.size β1 n 0 g hb rfl (by simp)
              rw [← HDD.out] at this
              simpa using this
            clear HEX
            go_region_law (first
              | (go_simp; (go_at_call 14; (with_reducible refine (bind_any ⟨#[118, 97, 114, 46, 110]⟩ n _).mono ?_); rintro e w4 ⟨rfl, hb4⟩; have G4 : RowKit.Hid (Gd wr wr.heap.size s t 0 w4) := Lib.hid (by first | exact Gd.below G3.out.drew hb4 | exact Gd.below (G3.out.alloc _).drew hb4); obtain ⟨p0, p1, p2, p3, p4⟩ := G4.out.bd; obtain ⟨r0, r1, r2, r3, r4⟩ := (G4.out.alloc (Obj.cells #[Value.int IntKind.i64 0, Value.int IntKind.i64 0, Value.string ⟨#[]⟩, Value.slice none 0 0] 33)).bd; (first | (have Q4 : RowKit.Hid (w4.heap[w3.heap.size]? = some (Obj.cells #[Value.int IntKind.i64 0, Value.int IntKind.i64 0, Value.string ⟨#[]⟩, Value.slice none 0 0] 33)) := Lib.hid (bk_below (w := (w3.alloc (Obj.cells #[Value.int IntKind.i64 0, Value.int IntKind.i64 0, Value.string ⟨#[]⟩, Value.slice none 0 0] 33)).drew) (bk_new w3 (Obj.cells #[Value.int IntKind.i64 0, Value.int IntKind.i64 0, Value.string ⟨#[]⟩, Value.slice none 0 0] 33)) hb4)) | skip); clear hb4))
              | (go_simp; (go_at_call 10; (first | (with_reducible refine (HEF.out _ _ (G4.out.alloc _) (two_new n 0 w4)).mono ?_) | (with_reducible refine (HEF.out _ _ ((G4.out.alloc _).alloc _) ((two_new n 0 w4).below ((Below.refl _ _).alloc (Nat.le_refl _) _))).mono ?_) | (have HT9 := two_new n 0 (w4.alloc (Obj.cells #[Value.int IntKind.i64 0, Value.int IntKind.i64 0, Value.string ⟨#[]⟩, Value.slice none 0 0] 33)); rw [World.size_alloc] at HT9; with_reducible refine (HEF.out _ _ ((G4.out.alloc _).alloc _) HT9).mono ?_; clear HT9)); rintro e w6 ⟨rfl, hb6⟩; have G6 : RowKit.Hid (Gd wr wr.heap.size s t 0 w6) := Lib.hid (by first | exact Gd.below (G4.out.alloc _) hb6 | exact Gd.below ((G4.out.alloc _).alloc _) hb6); (first | (have Q6 : RowKit.Hid (w6.heap[w3.heap.size]? = some (Obj.cells #[Value.int IntKind.i64 0, Value.int IntKind.i64 0, Value.string ⟨#[]⟩, Value.slice none 0 0] 33)) := Lib.hid (bk_below (bk_alloc Q4.out _) hb6); have m0 : w6.cell? ⟨w3.heap.size, 0, none⟩ = some (.int .i64 0) := (bk_cell Q6.out 0).trans rfl; have g0 : w6.frozen? ⟨w3.heap.size, 0, none⟩ = false := bk_frozen Q6.out 0; have m1 : w6.cell? ⟨w3.heap.size, 1, none⟩ = some (.int .i64 0) := (bk_cell Q6.out 1).trans rfl; have g1 : w6.frozen? ⟨w3.heap.size, 1, none⟩ = false := bk_frozen Q6.out 1; have m2 : w6.cell? ⟨w3.heap.size, 2, none⟩ = some (.string ⟨#[]⟩) := (bk_cell Q6.out 2).trans rfl; have g2 : w6.frozen? ⟨w3.heap.size, 2, none⟩ = false := bk_frozen Q6.out 2; have m3 : w6.cell? ⟨w3.heap.size, 3, none⟩ = some (.slice none 0 0) := (bk_cell Q6.out 3).trans rfl; have g3 : w6.frozen? ⟨w3.heap.size, 3, none⟩ = false := bk_frozen Q6.out 3; have GQ := Lib.hid (stored G6.out Q6.out (bk_lt G3.out.kb) (s ++ D ++ t ++ ⟨#[102, 97, 108, 115, 101]⟩) (Nat.le_refl _)); have G7 := Lib.hid GQ.out.1; have Q7 := Lib.hid GQ.out.2; obtain ⟨u0, u1, u2, u3, u4⟩ := G7.out.bd; clear GQ) | (have Q6 : RowKit.Hid (w6.heap[w4.heap.size]? = some (Obj.cells #[Value.int IntKind.i64 0, Value.int IntKind.i64 0, Value.string ⟨#[]⟩, Value.slice none 0 0] 33)) := Lib.hid (bk_below (bk_alloc (bk_new w4 (Obj.cells #[Value.int IntKind.i64 0, Value.int IntKind.i64 0, Value.string ⟨#[]⟩, Value.slice none 0 0] 33)) _) hb6); have m0 : w6.cell? ⟨w4.heap.size, 0, none⟩ = some (.int .i64 0) := (bk_cell Q6.out 0).trans rfl; have g0 : w6.frozen? ⟨w4.heap.size, 0, none⟩ = false := bk_frozen Q6.out 0; have m1 : w6.cell? ⟨w4.heap.size, 1, none⟩ = some (.int .i64 0) := (bk_cell Q6.out 1).trans rfl; have g1 : w6.frozen? ⟨w4.heap.size, 1, none⟩ = false := bk_frozen Q6.out 1; have m2 : w6.cell? ⟨w4.heap.size, 2, none⟩ = some (.string ⟨#[]⟩) := (bk_cell Q6.out 2).trans rfl; have g2 : w6.frozen? ⟨w4.heap.size, 2, none⟩ = false := bk_frozen Q6.out 2; have m3 : w6.cell? ⟨w4.heap.size, 3, none⟩ = some (.slice none 0 0) := (bk_cell Q6.out 3).trans rfl; have g3 : w6.frozen? ⟨w4.heap.size, 3, none⟩ = false := bk_frozen Q6.out 3; have GQ := Lib.hid (stored G6.out Q6.out (bk_lt G4.out.kb) (s ++ D ++ t ++ ⟨#[102, 97, 108, 115, 101]⟩) (Nat.le_refl _)); have G7 := Lib.hid GQ.out.1; have Q7 := Lib.hid GQ.out.2; obtain ⟨u0, u1, u2, u3, u4⟩ := G7.out.bd; clear GQ) | (have Q6 : RowKit.Hid (w6.heap[w4.heap.size + 1]? = some (Obj.cells #[Value.int IntKind.i64 0, Value.int IntKind.i64 0, Value.string ⟨#[]⟩, Value.slice none 0 0] 33)) := Lib.hid (by have h := bk_below (bk_new (w4.alloc (Obj.cells #[Value.string ⟨#[118, 97, 114, 46, 110]⟩, Value.int IntKind.i64 1, Value.int IntKind.i64 n, Value.string ⟨#[]⟩, Value.slice none 0 0, Value.string ⟨#[118, 97, 114, 46, 98]⟩, Value.int IntKind.i64 3, Value.int IntKind.i64 0, Value.string ⟨#[]⟩, Value.slice none 0 0] 43)) (Obj.cells #[Value.int IntKind.i64 0, Value.int IntKind.i64 0, Value.string ⟨#[]⟩, Value.slice none 0 0] 33)) hb6; rw [World.size_alloc] at h; exact h); have m0 : w6.cell? ⟨w4.heap.size + 1, 0, none⟩ = some (.int .i64 0) := (bk_cell Q6.out 0).trans rfl; have g0 : w6.frozen? ⟨w4.heap.size + 1, 0, none⟩ = false := bk_frozen Q6.out 0; have m1 : w6.cell? ⟨w4.heap.size + 1, 1, none⟩ = some (.int .i64 0) := (bk_cell Q6.out 1).trans rfl; have g1 : w6.frozen? ⟨w4.heap.size + 1, 1, none⟩ = false := bk_frozen Q6.out 1; have m2 : w6.cell? ⟨w4.heap.size + 1, 2, none⟩ = some (.string ⟨#[]⟩) := (bk_cell Q6.out 2).trans rfl; have g2 : w6.frozen? ⟨w4.heap.size + 1, 2, none⟩ = false := bk_frozen Q6.out 2; have m3 : w6.cell? ⟨w4.heap.size + 1, 3, none⟩ = some (.slice none 0 0) := (bk_cell Q6.out 3).trans rfl; have g3 : w6.frozen? ⟨w4.heap.size + 1, 3, none⟩ = false := bk_frozen Q6.out 3; have GQ := Lib.hid (stored G6.out Q6.out (Nat.lt_succ_of_lt (bk_lt G4.out.kb)) (s ++ D ++ t ++ ⟨#[102, 97, 108, 115, 101]⟩) (Nat.le_refl _)); have G7 := Lib.hid GQ.out.1; have Q7 := Lib.hid GQ.out.2; obtain ⟨u0, u1, u2, u3, u4⟩ := G7.out.bd; clear GQ) | (have G7 := Lib.hid (G6.out.alloc (Obj.cells #[Value.int IntKind.i64 2, Value.int IntKind.i64 0, Value.string (s ++ D ++ t ++ ⟨#[102, 97, 108, 115, 101]⟩), Value.slice none 0 0] 33)); have Q7 := Lib.hid (bk_new w6 (Obj.cells #[Value.int IntKind.i64 2, Value.int IntKind.i64 0, Value.string (s ++ D ++ t ++ ⟨#[102, 97, 108, 115, 101]⟩), Value.slice none 0 0] 33)); obtain ⟨u0, u1, u2, u3, u4⟩ := G7.out.bd)))))
            all_goals
              clear HEF z0 z1 z2 z3 z4 a0 a1 a2 a3 a4
              go_wp2_with fail
            all_goals
              have HB9 := two_of G7.out 0
              simp only [World.size_alloc, World.size_setCell] at HB9
              refine (HEG.out _ _ _ 0 (G7.out.alloc _) HB9).mono ?_
              rintro e w8 ⟨rfl, hb8⟩
              have Q8 := Lib.hid (bk_below (bk_alloc Q7.out _) hb8)
              have L8 := Lib.hid (Gd.below (G7.out.alloc _) hb8).low
              clear hb8 HB9 HEG G7 Q7 G6 G4 G3
              have n0 := cell_alloc (.cells #[.int .i64 0, .int .i64 0, .string ⟨#[]⟩, .slice none 0 0] 33) ((bk_cell Q8.out 0).trans (show _ = some (Value.int IntKind.i64 2) from rfl))
              have n2 := cell_alloc (.cells #[.int .i64 0, .int .i64 0, .string ⟨#[]⟩, .slice none 0 0] 33) ((bk_cell Q8.out 2).trans (show _ = some (Value.string (s ++ D ++ t ++ ⟨#[102, 97, 108, 115, 101]⟩)) from rfl))
              go_wp2_with fail
              refine (num_any 0 _).mono ?_
              rintro e w9 ⟨rfl, hw⟩
              have L9 : RowKit.Hid (Below wr.heap.size wr w9) := Lib.hid (by rw [hw]; exact L8.out.alloc L8.out.size _)
              rw [← hw] at n0 n2
              clear hw Q8 L8
              go_wp2_with fail
              refine (num_any 7 _).mono ?_
              rintro e wa ⟨rfl, hw⟩
              subst hw
              go_wp2_with fail
              refine (HA.out _).mono ?_
              rintro e wb ⟨rfl, hbb⟩
              go_wp2_with fail
              go_ret
              exact ⟨rfl, L9.out.trans (hbb.mono L9.out.size)⟩
          · obtain ⟨-, -, x0, -, -⟩ := G3.out.bd
            have xf : w3.frozen? ⟨wr.heap.size + 1 + 1, 2, none⟩ = false := bk_frozen G3.out.kb 2
            go_wp2_with fail
            refine (DG.out _).mono ?_
            rintro e w5 ⟨rfl, hb5⟩
            have G5 : RowKit.Hid (Gd wr wr.heap.size s t 1 w5) := Lib.hid ((G3.out.one (Nat.le_refl _)).below hb5)
            clear hb5 x0 xf G3
            obtain ⟨z0, z1, z2, z3, z4⟩ := G5.out.bd
            obtain ⟨a0, a1, a2, a3, a4⟩ := (G5.out.alloc (Obj.cells #[Value.int IntKind.i64 0, Value.int IntKind.i64 0, Value.string ⟨#[]⟩, Value.slice none 0 0] 33)).bd
            go_wp2_with fail
            have HEF : RowKit.Hid (∀ (W : World) (β1 : Nat), Gd wr wr.heap.size s t 1 W → BdsAt W β1 0 [⟨⟨#[118, 97, 114, 46, 110]⟩, 1, n, ⟨#[]⟩, none, 0, 0⟩, ⟨⟨#[118, 97, 114, 46, 98]⟩, 3, 1, ⟨#[]⟩, none, 0, 0⟩] →
                Calls Tryz.prog 10 #[.slice (some ⟨wr.heap.size + 1, 0, none⟩) 1 1, .slice (some ⟨β1, 0, none⟩) 2 2] W fun e w' => e = .returned (.tuple #[.agg #[.int .i64 2, .int .i64 0, .string (s ++ D ++ t ++ ⟨#[116, 114, 117, 101]⟩), .slice none 0 0], .int .i64 0]) ∧ Below W.heap.size W w') := Lib.hid fun W β1 g hb => by
              have := HEX.out W wr.heap.size β1 n 1 g hb rfl (by simp)
              rw [← HDD.out] at this
              simpa using this
            clear HEX
            go_region_law (first
              | (go_simp; (go_at_call 14; (with_reducible refine (bind_any ⟨#[118, 97, 114, 46, 110]⟩ n _).mono ?_); rintro e w4 ⟨rfl, hb4⟩; have G4 : RowKit.Hid (Gd wr wr.heap.size s t 1 w4) := Lib.hid (by first | exact Gd.below G5.out.drew hb4 | exact Gd.below (G5.out.alloc _).drew hb4); obtain ⟨p0, p1, p2, p3, p4⟩ := G4.out.bd; obtain ⟨r0, r1, r2, r3, r4⟩ := (G4.out.alloc (Obj.cells #[Value.int IntKind.i64 0, Value.int IntKind.i64 0, Value.string ⟨#[]⟩, Value.slice none 0 0] 33)).bd; (first | (have Q4 : RowKit.Hid (w4.heap[w5.heap.size]? = some (Obj.cells #[Value.int IntKind.i64 0, Value.int IntKind.i64 0, Value.string ⟨#[]⟩, Value.slice none 0 0] 33)) := Lib.hid (bk_below (w := (w5.alloc (Obj.cells #[Value.int IntKind.i64 0, Value.int IntKind.i64 0, Value.string ⟨#[]⟩, Value.slice none 0 0] 33)).drew) (bk_new w5 (Obj.cells #[Value.int IntKind.i64 0, Value.int IntKind.i64 0, Value.string ⟨#[]⟩, Value.slice none 0 0] 33)) hb4)) | skip); clear hb4))
              | (go_simp; (go_at_call 10; (first | (with_reducible refine (HEF.out _ _ (G4.out.alloc _) (two_new n 1 w4)).mono ?_) | (with_reducible refine (HEF.out _ _ ((G4.out.alloc _).alloc _) ((two_new n 1 w4).below ((Below.refl _ _).alloc (Nat.le_refl _) _))).mono ?_) | (have HT9 := two_new n 1 (w4.alloc (Obj.cells #[Value.int IntKind.i64 0, Value.int IntKind.i64 0, Value.string ⟨#[]⟩, Value.slice none 0 0] 33)); rw [World.size_alloc] at HT9; with_reducible refine (HEF.out _ _ ((G4.out.alloc _).alloc _) HT9).mono ?_; clear HT9)); rintro e w6 ⟨rfl, hb6⟩; have G6 : RowKit.Hid (Gd wr wr.heap.size s t 1 w6) := Lib.hid (by first | exact Gd.below (G4.out.alloc _) hb6 | exact Gd.below ((G4.out.alloc _).alloc _) hb6); (first | (have Q6 : RowKit.Hid (w6.heap[w5.heap.size]? = some (Obj.cells #[Value.int IntKind.i64 0, Value.int IntKind.i64 0, Value.string ⟨#[]⟩, Value.slice none 0 0] 33)) := Lib.hid (bk_below (bk_alloc Q4.out _) hb6); have m0 : w6.cell? ⟨w5.heap.size, 0, none⟩ = some (.int .i64 0) := (bk_cell Q6.out 0).trans rfl; have g0 : w6.frozen? ⟨w5.heap.size, 0, none⟩ = false := bk_frozen Q6.out 0; have m1 : w6.cell? ⟨w5.heap.size, 1, none⟩ = some (.int .i64 0) := (bk_cell Q6.out 1).trans rfl; have g1 : w6.frozen? ⟨w5.heap.size, 1, none⟩ = false := bk_frozen Q6.out 1; have m2 : w6.cell? ⟨w5.heap.size, 2, none⟩ = some (.string ⟨#[]⟩) := (bk_cell Q6.out 2).trans rfl; have g2 : w6.frozen? ⟨w5.heap.size, 2, none⟩ = false := bk_frozen Q6.out 2; have m3 : w6.cell? ⟨w5.heap.size, 3, none⟩ = some (.slice none 0 0) := (bk_cell Q6.out 3).trans rfl; have g3 : w6.frozen? ⟨w5.heap.size, 3, none⟩ = false := bk_frozen Q6.out 3; have GQ := Lib.hid (stored G6.out Q6.out (bk_lt G5.out.kb) (s ++ D ++ t ++ ⟨#[116, 114, 117, 101]⟩) (Nat.le_refl _)); have G7 := Lib.hid GQ.out.1; have Q7 := Lib.hid GQ.out.2; obtain ⟨u0, u1, u2, u3, u4⟩ := G7.out.bd; clear GQ) | (have Q6 : RowKit.Hid (w6.heap[w4.heap.size]? = some (Obj.cells #[Value.int IntKind.i64 0, Value.int IntKind.i64 0, Value.string ⟨#[]⟩, Value.slice none 0 0] 33)) := Lib.hid (bk_below (bk_alloc (bk_new w4 (Obj.cells #[Value.int IntKind.i64 0, Value.int IntKind.i64 0, Value.string ⟨#[]⟩, Value.slice none 0 0] 33)) _) hb6); have m0 : w6.cell? ⟨w4.heap.size, 0, none⟩ = some (.int .i64 0) := (bk_cell Q6.out 0).trans rfl; have g0 : w6.frozen? ⟨w4.heap.size, 0, none⟩ = false := bk_frozen Q6.out 0; have m1 : w6.cell? ⟨w4.heap.size, 1, none⟩ = some (.int .i64 0) := (bk_cell Q6.out 1).trans rfl; have g1 : w6.frozen? ⟨w4.heap.size, 1, none⟩ = false := bk_frozen Q6.out 1; have m2 : w6.cell? ⟨w4.heap.size, 2, none⟩ = some (.string ⟨#[]⟩) := (bk_cell Q6.out 2).trans rfl; have g2 : w6.frozen? ⟨w4.heap.size, 2, none⟩ = false := bk_frozen Q6.out 2; have m3 : w6.cell? ⟨w4.heap.size, 3, none⟩ = some (.slice none 0 0) := (bk_cell Q6.out 3).trans rfl; have g3 : w6.frozen? ⟨w4.heap.size, 3, none⟩ = false := bk_frozen Q6.out 3; have GQ := Lib.hid (stored G6.out Q6.out (bk_lt G4.out.kb) (s ++ D ++ t ++ ⟨#[116, 114, 117, 101]⟩) (Nat.le_refl _)); have G7 := Lib.hid GQ.out.1; have Q7 := Lib.hid GQ.out.2; obtain ⟨u0, u1, u2, u3, u4⟩ := G7.out.bd; clear GQ) | (have Q6 : RowKit.Hid (w6.heap[w4.heap.size + 1]? = some (Obj.cells #[Value.int IntKind.i64 0, Value.int IntKind.i64 0, Value.string ⟨#[]⟩, Value.slice none 0 0] 33)) := Lib.hid (by have h := bk_below (bk_new (w4.alloc (Obj.cells #[Value.string ⟨#[118, 97, 114, 46, 110]⟩, Value.int IntKind.i64 1, Value.int IntKind.i64 n, Value.string ⟨#[]⟩, Value.slice none 0 0, Value.string ⟨#[118, 97, 114, 46, 98]⟩, Value.int IntKind.i64 3, Value.int IntKind.i64 1, Value.string ⟨#[]⟩, Value.slice none 0 0] 43)) (Obj.cells #[Value.int IntKind.i64 0, Value.int IntKind.i64 0, Value.string ⟨#[]⟩, Value.slice none 0 0] 33)) hb6; rw [World.size_alloc] at h; exact h); have m0 : w6.cell? ⟨w4.heap.size + 1, 0, none⟩ = some (.int .i64 0) := (bk_cell Q6.out 0).trans rfl; have g0 : w6.frozen? ⟨w4.heap.size + 1, 0, none⟩ = false := bk_frozen Q6.out 0; have m1 : w6.cell? ⟨w4.heap.size + 1, 1, none⟩ = some (.int .i64 0) := (bk_cell Q6.out 1).trans rfl; have g1 : w6.frozen? ⟨w4.heap.size + 1, 1, none⟩ = false := bk_frozen Q6.out 1; have m2 : w6.cell? ⟨w4.heap.size + 1, 2, none⟩ = some (.string ⟨#[]⟩) := (bk_cell Q6.out 2).trans rfl; have g2 : w6.frozen? ⟨w4.heap.size + 1, 2, none⟩ = false := bk_frozen Q6.out 2; have m3 : w6.cell? ⟨w4.heap.size + 1, 3, none⟩ = some (.slice none 0 0) := (bk_cell Q6.out 3).trans rfl; have g3 : w6.frozen? ⟨w4.heap.size + 1, 3, none⟩ = false := bk_frozen Q6.out 3; have GQ := Lib.hid (stored G6.out Q6.out (Nat.lt_succ_of_lt (bk_lt G4.out.kb)) (s ++ D ++ t ++ ⟨#[116, 114, 117, 101]⟩) (Nat.le_refl _)); have G7 := Lib.hid GQ.out.1; have Q7 := Lib.hid GQ.out.2; obtain ⟨u0, u1, u2, u3, u4⟩ := G7.out.bd; clear GQ) | (have G7 := Lib.hid (G6.out.alloc (Obj.cells #[Value.int IntKind.i64 2, Value.int IntKind.i64 0, Value.string (s ++ D ++ t ++ ⟨#[116, 114, 117, 101]⟩), Value.slice none 0 0] 33)); have Q7 := Lib.hid (bk_new w6 (Obj.cells #[Value.int IntKind.i64 2, Value.int IntKind.i64 0, Value.string (s ++ D ++ t ++ ⟨#[116, 114, 117, 101]⟩), Value.slice none 0 0] 33)); obtain ⟨u0, u1, u2, u3, u4⟩ := G7.out.bd)))))
            all_goals
              clear HEF z0 z1 z2 z3 z4 a0 a1 a2 a3 a4
              go_wp2_with fail
            all_goals
              have HB9 := two_of G7.out 1
              simp only [World.size_alloc, World.size_setCell] at HB9
              refine (HEG.out _ _ _ 1 (G7.out.alloc _) HB9).mono ?_
              rintro e w8 ⟨rfl, hb8⟩
              have Q8 := Lib.hid (bk_below (bk_alloc Q7.out _) hb8)
              have L8 := Lib.hid (Gd.below (G7.out.alloc _) hb8).low
              clear hb8 HB9 HEG G7 Q7 G6 G4 G5
              have n0 := cell_alloc (.cells #[.int .i64 0, .int .i64 0, .string ⟨#[]⟩, .slice none 0 0] 33) ((bk_cell Q8.out 0).trans (show _ = some (Value.int IntKind.i64 2) from rfl))
              have n2 := cell_alloc (.cells #[.int .i64 0, .int .i64 0, .string ⟨#[]⟩, .slice none 0 0] 33) ((bk_cell Q8.out 2).trans (show _ = some (Value.string (s ++ D ++ t ++ ⟨#[116, 114, 117, 101]⟩)) from rfl))
              go_wp2_with fail
              refine (num_any 0 _).mono ?_
              rintro e w9 ⟨rfl, hw⟩
              have L9 : RowKit.Hid (Below wr.heap.size wr w9) := Lib.hid (by rw [hw]; exact L8.out.alloc L8.out.size _)
              rw [← hw] at n0 n2
              clear hw Q8 L8
              go_wp2_with fail
              refine (num_any 7 _).mono ?_
              rintro e wa ⟨rfl, hw⟩
              subst hw
              go_wp2_with fail
              refine (HA.out _).mono ?_
              rintro e wb ⟨rfl, hbb⟩
              go_wp2_with fail
              go_ret
              exact ⟨rfl, L9.out.trans (hbb.mono L9.out.size)⟩
end Go.Proofs.YteopodohghnokaaGreatDoor
