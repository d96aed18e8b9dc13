/- Package record: the law of its bounds. -/
import Derived.Test.YtfcfliclmjikkaaGreatDoorBg
import Derived.Deep.RegionLaw
import Derived.Deep.AppendLies
import Derived.Laws.OwnMore
namespace Go.Proofs.YtfcfliclmjikkaaGreatDoor
open Go Go.Proofs
open Go.RowKit
set_option linter.unusedVariables false
set_option linter.unusedSimpArgs false

theorem bk_set {w : World} {g : Nat} {t : TypeId} {cs : Array Value} (h : w.heap[g]? = some (.cells cs t (0, 0))) (i : Nat) (u : Value) : (w.setCell ⟨g, i, none⟩ u).heap[g]? = some (.cells (cs.setIfInBounds i u) t (0, 0)) := by
  simp [World.setCell, Array.getElem?_modify, h]
theorem bk_lt {w : World} {g : Nat} {o : Obj} (h : w.heap[g]? = some o) : g < w.heap.size := (Array.getElem?_eq_some_iff.1 h).1
theorem bk_cell {w : World} {g : Nat} {t : TypeId} {cs : Array Value} (h : w.heap[g]? = some (.cells cs t (0, 0))) (i : Nat) : w.cell? ⟨g, i, none⟩ = cs[i]? := cell_of_row w g i cs t (0, 0) h
theorem bk_frozen {w : World} {g : Nat} {t : TypeId} {cs : Array Value} (h : w.heap[g]? = some (.cells cs t (0, 0))) (i : Nat) : w.frozen? ⟨g, i, none⟩ = false := by simp [World.frozen?, h]
theorem bk_grown {w w1 : World} {g : Nat} {o : Obj} {row : Option Nat} (h : w.heap[g]? = some o) (hg : w.grownBy w1 row) (hne : some g ≠ row) : w1.heap[g]? = some o := (hg.block g (bk_lt h) hne).trans h
theorem bk_alloc {w : World} {g : Nat} {o : Obj} (h : w.heap[g]? = some o) (o' : Obj) : (w.alloc o').heap[g]? = some o := (Below.heap_alloc w o' g (bk_lt h)).trans h
theorem bk_below {w w1 : World} {g : Nat} {o : Obj} (h : w.heap[g]? = some o) (hb : Below w.heap.size w w1) : w1.heap[g]? = some o := (hb.block g (bk_lt h)).trans h
theorem bk_new (w : World) (o : Obj) : (w.alloc o).heap[w.heap.size]? = some o := heap_alloc_new w o
/-- A row of a base above a block: not that block. -/
theorem own_far {w : World} {B g : Nat} {e : TypeId} {size : Nat} {v : Value} {n : Nat} {xs : List Value} (h : w.ownsRow B e size v n xs) (hg : g < B) : some g ≠ v.ownBlock := fun e => by
  have := (h.lt g e.symm).1
  omega
/-- A store elsewhere leaves the row. -/
theorem own_store {w : World} {B : Nat} {e : TypeId} {size : Nat} {v : Value} {n : Nat} {xs : List Value} (h : w.ownsRow B e size v n xs) {a : Addr} (ha : a.block < B) (u : Value) : (w.setCell a u).ownsRow B e size v n xs :=
  ownsRow_setCell_below h ha u

/-- All blocks of w but B are in w' as they were. -/
structure Kp (B : Nat) (w w' : World) : Prop where
  size : w.heap.size ≤ w'.heap.size
  block : ∀ k, k < w.heap.size → k ≠ B → w'.heap[k]? = w.heap[k]?
theorem Kp.refl (B : Nat) (w : World) : Kp B w w := ⟨Nat.le_refl _, fun _ _ _ => rfl⟩
theorem Kp.trans {B : Nat} {a b c : World} (h : Kp B a b) (k : Kp B b c) : Kp B a c := ⟨Nat.le_trans h.size k.size, fun i hi hne => (k.block i (Nat.lt_of_lt_of_le hi h.size) hne).trans (h.block i hi hne)⟩
theorem Kp.below {B : Nat} {a b : World} (h : Below a.heap.size a b) : Kp B a b := ⟨h.size, fun i hi _ => h.block i hi⟩
theorem Kp.set (B : Nat) (w : World) (i : Nat) (u : Value) : Kp B w (w.setCell ⟨B, i, none⟩ u) := ⟨by simp, fun k _ hne => Below.heap_setCell w ⟨B, i, none⟩ u k hne⟩
theorem Kp.grown {B : Nat} {a b c : World} {row : Option Nat} (h : Kp B a b) (hg : b.grownBy c row) (hr : ∀ k, row = some k → a.heap.size ≤ k) : Kp B a c :=
  ⟨Nat.le_trans h.size hg.size, fun i hi hne => (hg.block i (Nat.lt_of_lt_of_le hi h.size) (fun e => by have := hr i e.symm; omega)).trans (h.block i hi hne)⟩

/-- A row of pieces of six cells each. -/
def Sixes (f : Nat → Array Value) (k : Nat) (xs : List Value) : Prop := xs.length = k * 6 ∧ ∀ i, i < k → ∀ t, t < 6 → xs[i * 6 + t]? = (f i)[t]?
theorem Sixes.nil (f : Nat → Array Value) : Sixes f 0 [] := ⟨rfl, fun i hi => by omega⟩
theorem Sixes.snoc {f : Nat → Array Value} {k : Nat} {xs ys : List Value} (h : Sixes f k xs) (hy : ys = (f k).toList) (h6 : ys.length = 6) : Sixes f (k + 1) (xs ++ ys) := by
  refine ⟨by rw [List.length_append, h.1, h6]; omega, fun i hi t ht => ?_⟩
  by_cases hk : i < k
  · rw [List.getElem?_append_left (by rw [h.1]; omega)]
    exact h.2 i hk t ht
  · obtain rfl : i = k := by omega
    rw [List.getElem?_append_right (by rw [h.1]; omega), h.1, show i * 6 + t - i * 6 = t by omega, hy, Array.getElem?_toList]
theorem Sixes.cell {f : Nat → Array Value} {k : Nat} {xs : List Value} (h : Sixes f k xs) {w : World} {B g cap : Nat} {e : TypeId} (ho : w.ownsRow B e 6 (.slice (some ⟨g, 0, none⟩) k cap) k xs) (i t : Nat) (hi : i < k) (ht : t < 6) :
    w.cell? ⟨g, 0 + i * 6 + t, none⟩ = (f i)[t]? := by
  rw [Nat.zero_add, ho.cellAt _ (by omega), h.2 i hi t ht]
theorem MkAt.of {w : World} {B : Nat} {v : Value} {k : Nat} {xs : List Value} {e : TypeId} (ho : w.ownsRow B e 6 v k xs) (h : Sixes mkV k xs) : MkAt w v k := by
  rcases ho.2 with hz | ⟨g, cap, cur, rfl, hB, hg, _⟩
  · exact .inl hz
  · exact .inr ⟨g, 0, cap, rfl, bk_lt hg, fun i hi => ⟨h.cell ho i 0 hi (by omega), h.cell ho i 1 hi (by omega), h.cell ho i 2 hi (by omega), h.cell ho i 3 hi (by omega), h.cell ho i 4 hi (by omega), h.cell ho i 5 hi (by omega)⟩⟩
theorem StAt.of {w : World} {B : Nat} {v : Value} {k : Nat} {xs : List Value} {e : TypeId} (ho : w.ownsRow B e 6 v k xs) (h : Sixes (fun _ => stV) k xs) : StAt w v k := by
  rcases ho.2 with hz | ⟨g, cap, cur, rfl, hB, hg, _⟩
  · exact .inl hz
  · exact .inr ⟨g, 0, cap, rfl, bk_lt hg, fun i hi => ⟨h.cell ho i 0 hi (by omega), h.cell ho i 1 hi (by omega), h.cell ho i 2 hi (by omega), h.cell ho i 3 hi (by omega), h.cell ho i 4 hi (by omega), h.cell ho i 5 hi (by omega)⟩⟩
theorem MkAt.kept {w w' : World} {v : Value} {k B : Nat} (h : MkAt w v k) (hb : Kp B w w') (hn : ∀ g, v.ownBlock = some g → g ≠ B) : MkAt w' v k := by
  rcases h with h | ⟨g, o, cap, rfl, h2, h3⟩
  · exact .inl h
  · refine .inr ⟨g, o, cap, rfl, Nat.lt_of_lt_of_le h2 hb.size, fun i hi => ?_⟩
    have hc : ∀ off, w'.cell? ⟨g, off, none⟩ = w.cell? ⟨g, off, none⟩ := fun off => World.cell?_of_block (hb.block g h2 (hn g rfl))
    simp only [hc]
    exact h3 i hi
theorem StAt.kept {w w' : World} {v : Value} {k B : Nat} (h : StAt w v k) (hb : Kp B w w') (hn : ∀ g, v.ownBlock = some g → g ≠ B) : StAt w' v k := by
  rcases h with h | ⟨g, o, cap, rfl, h2, h3⟩
  · exact .inl h
  · refine .inr ⟨g, o, cap, rfl, Nat.lt_of_lt_of_le h2 hb.size, fun i hi => ?_⟩
    have hc : ∀ off, w'.cell? ⟨g, off, none⟩ = w.cell? ⟨g, off, none⟩ := fun off => World.cell?_of_block (hb.block g h2 (hn g rfl))
    simp only [hc]
    exact h3 i hi
theorem info46 : (Tryz.prog.info? 46).map (fun i => (i.zero, i.size, i.bytes)) = some (some (.agg #[.string ⟨#[]⟩, .string ⟨#[]⟩, .int .i64 0, .int .i64 0, .int .i64 0, .int .i64 0]), 6, 64) := by kernel_rfl
theorem info35 : (Tryz.prog.info? 35).map (fun i => (i.zero, i.size, i.bytes)) = some (some (.agg #[.int .i64 0, .string ⟨#[]⟩, .string ⟨#[]⟩, .int .i64 0, .int .i64 0, .int .i64 0]), 6, 64) := by kernel_rfl
set_option maxRecDepth 100000
set_option maxHeartbeats 4000000
theorem dig_calls2 {i : Nat} (hi : i < 260) (w : World) : Calls Tryz.prog 17 #[.int .i64 (IntKind.i64.wrap (1000 + (i : Int)))] w fun e w' => ∃ s : ByteArray, e = .returned (.string s) ∧ s.size ≤ 1000 ∧ (⟨#[110]⟩ ++ s : ByteArray) = ⟨(nmA i).toArray⟩ ∧ Below w.heap.size w w' := by
  have h := dig_calls hi w
  have hw : IntKind.i64.wrap (1000 + (i : Int)) = 1000 + (i : Int) := by simp [IntKind.wrap, IntKind.bits, IntKind.signed]; omega
  rw [show (((1000 + i : Nat) : Int)) = IntKind.i64.wrap (1000 + (i : Int)) by rw [hw]; push_cast; rfl] at h
  exact h.mono fun e w' ⟨he, hb⟩ => ⟨_, he, by simp [ByteArray.size, dgA], by rfl, hb⟩

theorem below_of_drew {w w2 : World} (h : Below w.drew.heap.size w.drew w2) : Below w.heap.size w w2 := (Below.refl w.heap.size w).drew.trans h

theorem no_big {n : Nat} (h : n ≤ 1000) : ¬ (9223372036854775807 < 1 + n) := by omega

theorem bounds_any (a b : Nat) (ha : a < 65536) (hb : b < 65536) (d : Int) (hd : -9223372036854775808 ≤ d) (hd2 : d ≤ 9223372036854775807) (w : World) :
    Calls Tryz.prog 5 #[.int .u16 a, .int .u16 b, .int .i64 d] w fun e w' => e = .returned (.bool true) ∧ Below w.heap.size w w' := by
  have nA : Int.tmod (a : Int) 260 = ((a % 260 : Nat) : Int) := by rw [Int.tmod_eq_emod_of_nonneg (by omega)]; omega
  have nB : Int.tmod (b : Int) 500 = ((b % 500 : Nat) : Int) := by rw [Int.tmod_eq_emod_of_nonneg (by omega)]; omega
  obtain ⟨k, hk, hk2⟩ : ∃ k : Nat, (a : Int) % 260 = (k : Int) ∧ k < 260 := ⟨a % 260, by omega, by omega⟩
  obtain ⟨p, hp, hp2⟩ : ∃ p : Nat, (b : Int) % 500 = (p : Int) ∧ p < 500 := ⟨b % 500, by omega, by omega⟩
  have HKK := Lib.hid hk
  have HPP := Lib.hid hp
  clear hk hp
  go_enter Tryz.func5, Tryz.ntmps5
  go_wp2_with fail
  rw [HKK.out, HPP.out]
  clear HKK HPP nA nB
  obtain ⟨ik, hik, hkz0, hkz1, hkz2⟩ := info_parts info46
  have Hki := Lib.hid hik
  have Hkz0 := Lib.hid hkz0
  have Hkz1 := Lib.hid hkz1
  have Hkz2 := Lib.hid hkz2
  clear hik hkz0 hkz1 hkz2
  go_loopw [10] (fun i wr => ∃ (j : Nat) (v : Value) (xs : List Value), j ≤ k ∧ i = .int .i64 j ∧ RowKit.Hid (wr.heap[w.heap.size]? = some (.cells #[v, .slice none 0 0, .int .i64 0] 27)) ∧ RowKit.Hid (wr.ownsRow (w.heap.size + 1) 46 6 v j xs) ∧ RowKit.Hid (Sixes mkV j xs) ∧ RowKit.Hid (Below w.heap.size w wr)) (fun i _ => k - (intOf i).toNat)
  case atStart => exact ⟨0, .slice none 0 0, [], by omega, rfl, Lib.hid (bk_new w _), Lib.hid (World.ownsRow_nil _ _ _ _), Lib.hid (Sixes.nil _), Lib.hid ((Below.refl _ _).alloc (Nat.le_refl _) _)⟩
  case round =>
    obtain ⟨j, v, xs, hj, rfl, hB, hown, hsx, hbl⟩ := hrel
    have hlt := bk_lt hB.out
    by_cases hjk : j < k
    · have c0 : wr.cell? ⟨w.heap.size, 0, none⟩ = some v := bk_cell hB.out 0
      have r0 := bk_frozen hB.out 0
      have HB := Lib.hid hB.out
      have HBd : RowKit.Hid (Below w.heap.size w wr.drew) := Lib.hid hbl.out.drew
      go_wp2_with fail
      go_region_law (first
        | (go_simp; (go_at_call 17; (with_reducible refine (dig_calls2 (i := j) (by omega) _).mono ?_); rintro e w2 ⟨s, rfl, hs, hnm, hb2⟩; have HNM := Lib.hid hnm; clear hnm; have hcs := no_big hs; have B2 := bk_below (w := wr.drew) HB.out hb2; have q0 : w2.cell? ⟨w.heap.size, 0, none⟩ = some v := bk_cell B2 0; have l2 := bk_lt B2; have B2 := Lib.hid B2; have OWN2 := Lib.hid (own_below hown.out (below_of_drew hb2)); have HB2 := Lib.hid hb2; clear hb2))
        | (refine step_append_lies _ rfl (.tmp 25) (.tmp 31) 24 rfl (w.heap.size + 1) 46 ik (.agg #[.string ⟨#[]⟩, .string ⟨#[]⟩, .int .i64 0, .int .i64 0, .int .i64 0, .int .i64 0]) 6 64 Tryz.underlying24 Hki.out Hkz0.out Hkz1.out Hkz2.out rfl (by decide) v j xs rfl ((OWN2.out).alloc _) ⟨w2.heap.size, 0, none⟩ 1 1 [.string (⟨#[110]⟩ ++ s), .string ByteArray.empty, .int .i64 0, .int .i64 0, .int .i64 0, .int .i64 1] rfl rfl (World.news_of_block (bk_new w2 _)) (by intro u hu; simp at hu; rcases hu with rfl | rfl | rfl | rfl <;> rfl) (by omega) (by unfold maxLen; omega) (by omega) (by simp; omega) w2.heap.size.succ (by simp) ?_; intro g cap w3 hown3 hgr3 hat3 hlt3; have B3 := bk_grown (bk_alloc B2.out _) hgr3 (own_far OWN2.out (Nat.lt_succ_self _)); have q3 : w3.cell? ⟨w.heap.size, 0, none⟩ = some v := bk_cell B3 0; have r3 := bk_frozen B3 0; have B3 := Lib.hid B3; have HG3 := Lib.hid hgr3; have HO3 := Lib.hid hown3; clear hgr3 hown3 hat3))
      all_goals
        have hB4 := Lib.hid (bk_set B3.out 0 (.slice (some ⟨g, 0, none⟩) (j + 1) cap))
        have hO4 := Lib.hid (own_store HO3.out (a := ⟨w.heap.size, 0, none⟩) (Nat.lt_succ_self _) (.slice (some ⟨g, 0, none⟩) (j + 1) cap))
        have hb4 : RowKit.Hid (Below w.heap.size w (w3.setCell ⟨w.heap.size, 0, none⟩ (.slice (some ⟨g, 0, none⟩) (j + 1) cap))) := Lib.hid ((((hbl.out.trans ((below_of_drew HB2.out).mono hbl.out.size)).alloc (by have := HB2.out.size; have := hbl.out.size; omega) _).grown HG3.out (by simp; have := l2; omega) (fun q hq => by have := (OWN2.out.lt q hq).1; omega)).setCell (Nat.le_refl _) _)
        have hs4 := Lib.hid (hsx.out.snoc (ys := [.string (⟨#[110]⟩ ++ s), .string ByteArray.empty, .int .i64 0, .int .i64 0, .int .i64 0, .int .i64 1]) (by rw [HNM.out]; rfl) rfl)
        clear q0 q3 r3 c0 r0 hs hcs
        go_wp2
        go_roundw
        case rel => exact ⟨j + 1, _, _, by omega, by go_num, hB4, hO4, hs4, hb4⟩
        case measure => simp [intOf]; omega
    · obtain rfl : j = k := by omega
      have HMk := Lib.hid (MkAt.of hown.out hsx.out)
      have HMn : RowKit.Hid (∀ g, v.ownBlock = some g → g ≠ w.heap.size) := Lib.hid (fun g hg e => by have := (hown.out.lt g hg).1; omega)
      clear hsx hown
      go_wp2_with fail
      obtain ⟨is, his, hsz0, hsz1, hsz2⟩ := info_parts info35
      have Hsi := Lib.hid his
      have Hsz0 := Lib.hid hsz0
      have Hsz1 := Lib.hid hsz1
      have Hsz2 := Lib.hid hsz2
      clear his hsz0 hsz1 hsz2
      have hB0 := hB
      have hbl0 := hbl
      clear hB hbl
      generalize wr = wa at *
      go_loopw [11] (fun i wr => ∃ (q : Nat) (u : Value) (ys : List Value), q ≤ p ∧ i = .int .i64 q ∧ RowKit.Hid (wr.heap[w.heap.size]? = some (.cells #[v, u, .int .i64 0] 27)) ∧ RowKit.Hid (wr.ownsRow wa.heap.size 35 6 u q ys) ∧ RowKit.Hid (Sixes (fun _ => stV) q ys) ∧ RowKit.Hid (Kp w.heap.size wa wr) ∧ RowKit.Hid (Below w.heap.size w wr)) (fun i _ => p - (intOf i).toNat)
      case atStart => exact ⟨0, .slice none 0 0, [], by omega, rfl, hB0, Lib.hid (World.ownsRow_nil _ _ _ _), Lib.hid (Sixes.nil _), Lib.hid (Kp.refl _ _), hbl0⟩
      case round =>
        obtain ⟨q, u, ys, hq, rfl, hB, hown, hsx, hkp, hbl⟩ := hrel
        clear hB0 hbl0
        have hlt2 := bk_lt hB.out
        have hsz := hkp.out.size
        by_cases hqp : q < p
        · have c0 : wr.cell? ⟨w.heap.size, 1, none⟩ = some u := bk_cell hB.out 1
          have hA := (Below.refl wr.heap.size wr).alloc (Nat.le_refl _) (Obj.cells #[.int .i64 4, .string ⟨#[120]⟩, .string ⟨#[]⟩, .int .i64 0, .int .i64 0, .int .i64 0] 35)
          have HA := Lib.hid hA
          have HO := Lib.hid (own_below hown.out hA)
          have HSZ : RowKit.Hid (wa.heap.size ≤ (wr.alloc (.cells #[.int .i64 4, .string ⟨#[120]⟩, .string ⟨#[]⟩, .int .i64 0, .int .i64 0, .int .i64 0] 35)).heap.size) := Lib.hid (by have := hA.size; omega)
          have HBA := Lib.hid (bk_alloc hB.out (Obj.cells #[.int .i64 4, .string ⟨#[120]⟩, .string ⟨#[]⟩, .int .i64 0, .int .i64 0, .int .i64 0] 35))
          clear hA
          go_wp2_with (at_builtin; refine wpList_append_own_at _ rfl _ _ 25 rfl wa.heap.size 35 is (.agg #[.int .i64 0, .string ⟨#[]⟩, .string ⟨#[]⟩, .int .i64 0, .int .i64 0, .int .i64 0]) 6 64 Tryz.underlying25 Hsi.out Hsz0.out Hsz1.out Hsz2.out rfl (by decide) _ _ _ rfl HO.out ⟨wr.heap.size, 0, none⟩ 1 1 [.int .i64 4, .string ⟨#[120]⟩, .string ⟨#[]⟩, .int .i64 0, .int .i64 0, .int .i64 0] rfl rfl (World.news_of_block (bk_new wr _)) (by intro u hu; simp at hu; rcases hu with rfl | rfl | rfl | rfl <;> rfl) (by unfold maxLen; omega) (by omega) HSZ.out ?_; intro v5 w5 hown5 hgrow hnil hat; clear hnil hat; obtain ⟨A5, c5, rfl⟩ := own_len hown5; have HOWN5 := Lib.hid hown5; have HGR := Lib.hid hgrow; have B5 := bk_grown HBA.out hgrow (own_far HO.out (by omega)); have q5 : w5.cell? ⟨w.heap.size, 1, none⟩ = some u := bk_cell B5 1; have r5 := bk_frozen B5 1; have B5 := Lib.hid B5; clear hown5 hgrow)
          have hB6 := Lib.hid (bk_set B5.out 1 (.slice A5 (q + 1) c5))
          have hO6 := Lib.hid (own_store HOWN5.out (a := ⟨w.heap.size, 1, none⟩) (by show w.heap.size < wa.heap.size; omega) (.slice A5 (q + 1) c5))
          have hK6 : RowKit.Hid (Kp w.heap.size wa (w5.setCell ⟨w.heap.size, 1, none⟩ (.slice A5 (q + 1) c5))) := Lib.hid (((hkp.out.trans (Kp.below HA.out)).grown HGR.out (fun x hx => (HO.out.lt x hx).1)).trans (Kp.set _ _ _ _))
          have hb6 : RowKit.Hid (Below w.heap.size w (w5.setCell ⟨w.heap.size, 1, none⟩ (.slice A5 (q + 1) c5))) := Lib.hid (((hbl.out.alloc (by have := hbl.out.size; omega) _).grown HGR.out (by have := HSZ.out; omega) (fun x hx => by have := (HO.out.lt x hx).1; omega)).setCell (Nat.le_refl _) _)
          have hs6 := Lib.hid (hsx.out.snoc (ys := [.int .i64 4, .string ⟨#[120]⟩, .string ⟨#[]⟩, .int .i64 0, .int .i64 0, .int .i64 0]) rfl rfl)
          clear q5 r5 c0
          go_wp2
          go_roundw
          case rel => exact ⟨q + 1, _, _, by omega, by go_num, hB6, hO6, hs6, hK6, hb6⟩
          case measure => simp [intOf]; omega
        · obtain rfl : q = p := by omega
          have c2 : wr.cell? ⟨w.heap.size, 2, none⟩ = some (.int .i64 0) := bk_cell hB.out 2
          have r2 := bk_frozen hB.out 2
          have c0 : wr.cell? ⟨w.heap.size, 0, none⟩ = some v := bk_cell hB.out 0
          have c1 : wr.cell? ⟨w.heap.size, 1, none⟩ = some u := bk_cell hB.out 1
          have HSt := Lib.hid (StAt.of hown.out hsx.out)
          have HSn : RowKit.Hid (∀ g, u.ownBlock = some g → g ≠ w.heap.size) := Lib.hid (fun g hg e => by have := (hown.out.lt g hg).1; omega)
          have HB7 := Lib.hid (bk_set hB.out 2 (.int .i64 d))
          have HK7 := Lib.hid (Kp.set w.heap.size wr 2 (.int .i64 d))
          have HM7 := Lib.hid (HMk.out.kept (hkp.out.trans HK7.out) HMn.out)
          have HS7 := Lib.hid (HSt.out.kept HK7.out HSn.out)
          have hb7 := Lib.hid (hbl.out.setCell (p := ⟨w.heap.size, 2, none⟩) (Nat.le_refl _) (.int .i64 d))
          clear hsx hown HMn HSn HSt HMk
          by_cases q4 : (j : Int) ≤ 240
          · by_cases q5 : (q : Int) ≤ 480
            · by_cases q1 : d < 0
              · have hm : mayB j q d = false := by simp [mayB]; omega
                go_wp2_with fail
                refine (may_any v u j q d hk2 hp2 _ HM7.out HS7.out).mono ?_
                rintro e w8 ⟨rfl, hb8⟩
                rw [hm]
                have HB8 := Lib.hid (bk_below HB7.out hb8)
                have HM8 := Lib.hid (HM7.out.below hb8)
                have HS8 := Lib.hid (HS7.out.below hb8)
                have hbw8 := Lib.hid (hb7.out.trans (hb8.mono hb7.out.size))
                have HMm := Lib.hid hm
                clear hb8 hm c0 c1 c2 r2
                have c0 : w8.cell? ⟨w.heap.size, 0, none⟩ = some v := bk_cell HB8.out 0
                have c1 : w8.cell? ⟨w.heap.size, 1, none⟩ = some u := bk_cell HB8.out 1
                have c2 : w8.cell? ⟨w.heap.size, 2, none⟩ = some (.int .i64 d) := bk_cell HB8.out 2
                go_wp2_with fail
                refine (lines_any v u j q d hk2 hp2 _ HM8.out HS8.out 0 (by rw [HMm.out]; rfl)).mono ?_
                rintro e w9 ⟨⟨A9, c9, rfl⟩, hb9⟩
                have hbw9 := Lib.hid (hbw8.out.trans (hb9.mono hbw8.out.size))
                clear hb9 c0 c1 c2
                go_wp2_with fail
                refine (awake_calls _).mono ?_
                rintro e w10 ⟨rfl, hb10⟩
                go_wp2_with fail
                go_ret
                exact ⟨rfl, hbw9.out.trans (hb10.mono hbw9.out.size)⟩
              · by_cases q2 : d < (q : Int)
                · have hm : mayB j q d = true := by simp [mayB]; omega
                  go_wp2_with fail
                  refine (may_any v u j q d hk2 hp2 _ HM7.out HS7.out).mono ?_
                  rintro e w8 ⟨rfl, hb8⟩
                  rw [hm]
                  have HB8 := Lib.hid (bk_below HB7.out hb8)
                  have HM8 := Lib.hid (HM7.out.below hb8)
                  have HS8 := Lib.hid (HS7.out.below hb8)
                  have hbw8 := Lib.hid (hb7.out.trans (hb8.mono hb7.out.size))
                  have HMm := Lib.hid hm
                  clear hb8 hm c0 c1 c2 r2
                  have c0 : w8.cell? ⟨w.heap.size, 0, none⟩ = some v := bk_cell HB8.out 0
                  have c1 : w8.cell? ⟨w.heap.size, 1, none⟩ = some u := bk_cell HB8.out 1
                  have c2 : w8.cell? ⟨w.heap.size, 2, none⟩ = some (.int .i64 d) := bk_cell HB8.out 2
                  go_wp2_with fail
                  refine (lines_any v u j q d hk2 hp2 _ HM8.out HS8.out (j + q) (by rw [HMm.out]; rfl)).mono ?_
                  rintro e w9 ⟨⟨A9, c9, rfl⟩, hb9⟩
                  have hbw9 := Lib.hid (hbw8.out.trans (hb9.mono hbw8.out.size))
                  clear hb9 c0 c1 c2
                  by_cases hz : j + q = 0
                  · have e1 : ((j + q : Nat) : Int) = 0 := by omega
                    have e2 : (j : Int) = 0 := by omega
                    have e3 : (q : Int) = 0 := by omega
                    go_wp2_with fail
                    refine (awake_calls _).mono ?_
                    rintro e w10 ⟨rfl, hb10⟩
                    go_wp2_with fail
                    go_ret
                    exact ⟨rfl, hbw9.out.trans (hb10.mono hbw9.out.size)⟩
                  · have e1 : 0 < ((j + q : Nat) : Int) := by omega
                    have e2 : 0 < (j : Int) + (q : Int) := by omega
                    go_wp2_with fail
                    refine (awake_calls _).mono ?_
                    rintro e w10 ⟨rfl, hb10⟩
                    go_wp2_with fail
                    go_ret
                    exact ⟨rfl, hbw9.out.trans (hb10.mono hbw9.out.size)⟩
                · by_cases q3 : d = 0
                  · obtain rfl : q = 0 := by omega
                    subst q3
                    have hm : mayB j 0 0 = true := by simp [mayB]; omega
                    go_wp2_with fail
                    refine (may_any v u j 0 0 hk2 hp2 _ HM7.out HS7.out).mono ?_
                    rintro e w8 ⟨rfl, hb8⟩
                    rw [hm]
                    have HB8 := Lib.hid (bk_below HB7.out hb8)
                    have HM8 := Lib.hid (HM7.out.below hb8)
                    have HS8 := Lib.hid (HS7.out.below hb8)
                    have hbw8 := Lib.hid (hb7.out.trans (hb8.mono hb7.out.size))
                    have HMm := Lib.hid hm
                    clear hb8 hm c0 c1 c2 r2
                    have c0 : w8.cell? ⟨w.heap.size, 0, none⟩ = some v := bk_cell HB8.out 0
                    have c1 : w8.cell? ⟨w.heap.size, 1, none⟩ = some u := bk_cell HB8.out 1
                    have c2 : w8.cell? ⟨w.heap.size, 2, none⟩ = some (.int .i64 0) := bk_cell HB8.out 2
                    go_wp2_with fail
                    refine (lines_any v u j 0 0 hk2 hp2 _ HM8.out HS8.out (j + 0) (by rw [HMm.out]; rfl)).mono ?_
                    rintro e w9 ⟨⟨A9, c9, rfl⟩, hb9⟩
                    have hbw9 := Lib.hid (hbw8.out.trans (hb9.mono hbw8.out.size))
                    clear hb9 c0 c1 c2
                    by_cases hz : j + 0 = 0
                    · have e1 : ((j + 0 : Nat) : Int) = 0 := by omega
                      have e2 : (j : Int) = 0 := by omega
                      have e3 : (0 : Int) = 0 := by omega
                      go_wp2_with fail
                      refine (awake_calls _).mono ?_
                      rintro e w10 ⟨rfl, hb10⟩
                      go_wp2_with fail
                      go_ret
                      exact ⟨rfl, hbw9.out.trans (hb10.mono hbw9.out.size)⟩
                    · have e1 : 0 < ((j + 0 : Nat) : Int) := by omega
                      have e2 : 0 < (j : Int) + (0 : Int) := by omega
                      go_wp2_with fail
                      refine (awake_calls _).mono ?_
                      rintro e w10 ⟨rfl, hb10⟩
                      go_wp2_with fail
                      go_ret
                      exact ⟨rfl, hbw9.out.trans (hb10.mono hbw9.out.size)⟩
                  · have hm : mayB j q d = false := by simp [mayB]; omega
                    go_wp2_with fail
                    refine (may_any v u j q d hk2 hp2 _ HM7.out HS7.out).mono ?_
                    rintro e w8 ⟨rfl, hb8⟩
                    rw [hm]
                    have HB8 := Lib.hid (bk_below HB7.out hb8)
                    have HM8 := Lib.hid (HM7.out.below hb8)
                    have HS8 := Lib.hid (HS7.out.below hb8)
                    have hbw8 := Lib.hid (hb7.out.trans (hb8.mono hb7.out.size))
                    have HMm := Lib.hid hm
                    clear hb8 hm c0 c1 c2 r2
                    have c0 : w8.cell? ⟨w.heap.size, 0, none⟩ = some v := bk_cell HB8.out 0
                    have c1 : w8.cell? ⟨w.heap.size, 1, none⟩ = some u := bk_cell HB8.out 1
                    have c2 : w8.cell? ⟨w.heap.size, 2, none⟩ = some (.int .i64 d) := bk_cell HB8.out 2
                    go_wp2_with fail
                    refine (lines_any v u j q d hk2 hp2 _ HM8.out HS8.out 0 (by rw [HMm.out]; rfl)).mono ?_
                    rintro e w9 ⟨⟨A9, c9, rfl⟩, hb9⟩
                    have hbw9 := Lib.hid (hbw8.out.trans (hb9.mono hbw8.out.size))
                    clear hb9 c0 c1 c2
                    go_wp2_with fail
                    refine (awake_calls _).mono ?_
                    rintro e w10 ⟨rfl, hb10⟩
                    go_wp2_with fail
                    go_ret
                    exact ⟨rfl, hbw9.out.trans (hb10.mono hbw9.out.size)⟩
            · have hm : mayB j q d = false := by simp [mayB]; omega
              go_wp2_with fail
              refine (may_any v u j q d hk2 hp2 _ HM7.out HS7.out).mono ?_
              rintro e w8 ⟨rfl, hb8⟩
              rw [hm]
              have HB8 := Lib.hid (bk_below HB7.out hb8)
              have HM8 := Lib.hid (HM7.out.below hb8)
              have HS8 := Lib.hid (HS7.out.below hb8)
              have hbw8 := Lib.hid (hb7.out.trans (hb8.mono hb7.out.size))
              have HMm := Lib.hid hm
              clear hb8 hm c0 c1 c2 r2
              have c0 : w8.cell? ⟨w.heap.size, 0, none⟩ = some v := bk_cell HB8.out 0
              have c1 : w8.cell? ⟨w.heap.size, 1, none⟩ = some u := bk_cell HB8.out 1
              have c2 : w8.cell? ⟨w.heap.size, 2, none⟩ = some (.int .i64 d) := bk_cell HB8.out 2
              go_wp2_with fail
              refine (lines_any v u j q d hk2 hp2 _ HM8.out HS8.out 0 (by rw [HMm.out]; rfl)).mono ?_
              rintro e w9 ⟨⟨A9, c9, rfl⟩, hb9⟩
              have hbw9 := Lib.hid (hbw8.out.trans (hb9.mono hbw8.out.size))
              clear hb9 c0 c1 c2
              go_wp2_with fail
              refine (awake_calls _).mono ?_
              rintro e w10 ⟨rfl, hb10⟩
              go_wp2_with fail
              go_ret
              exact ⟨rfl, hbw9.out.trans (hb10.mono hbw9.out.size)⟩
          · have hm : mayB j q d = false := by simp [mayB]; omega
            go_wp2_with fail
            refine (may_any v u j q d hk2 hp2 _ HM7.out HS7.out).mono ?_
            rintro e w8 ⟨rfl, hb8⟩
            rw [hm]
            have HB8 := Lib.hid (bk_below HB7.out hb8)
            have HM8 := Lib.hid (HM7.out.below hb8)
            have HS8 := Lib.hid (HS7.out.below hb8)
            have hbw8 := Lib.hid (hb7.out.trans (hb8.mono hb7.out.size))
            have HMm := Lib.hid hm
            clear hb8 hm c0 c1 c2 r2
            have c0 : w8.cell? ⟨w.heap.size, 0, none⟩ = some v := bk_cell HB8.out 0
            have c1 : w8.cell? ⟨w.heap.size, 1, none⟩ = some u := bk_cell HB8.out 1
            have c2 : w8.cell? ⟨w.heap.size, 2, none⟩ = some (.int .i64 d) := bk_cell HB8.out 2
            go_wp2_with fail
            refine (lines_any v u j q d hk2 hp2 _ HM8.out HS8.out 0 (by rw [HMm.out]; rfl)).mono ?_
            rintro e w9 ⟨⟨A9, c9, rfl⟩, hb9⟩
            have hbw9 := Lib.hid (hbw8.out.trans (hb9.mono hbw8.out.size))
            clear hb9 c0 c1 c2
            go_wp2_with fail
            refine (awake_calls _).mono ?_
            rintro e w10 ⟨rfl, hb10⟩
            go_wp2_with fail
            go_ret
            exact ⟨rfl, hbw9.out.trans (hb10.mono hbw9.out.size)⟩
end Go.Proofs.YtfcfliclmjikkaaGreatDoor
