/- What a text of four parts is worth: the walk. -/
import Derived.Test.YteopodohghnokaaGreatDoorWb
import Derived.OwnWalk
import Derived.Maps.AppendAt
import Derived.Laws.OwnMore
namespace Go.Proofs.YteopodohghnokaaGreatDoor
open Go Go.Proofs Go.RowKit
set_option maxRecDepth 100000
set_option linter.unusedSimpArgs false
set_option linter.unusedVariables false
set_option maxHeartbeats 4000000

theorem own_below {w w' : World} {B : Nat} {e : TypeId} {size : Nat} {v : Value} {n : Nat} {xs : List Value} (h : w.ownsRow B e size v n xs) (hb : Below w.heap.size w w') : w'.ownsRow B e size v n xs :=
  ⟨h.1, h.2.imp id fun ⟨g, cap, cur, a, b, c, d⟩ => ⟨g, cap, cur, a, b, (hb.block g (Array.getElem?_eq_some_iff.1 c).1).trans c, d⟩⟩
theorem own_len {w : World} {B : Nat} {e : TypeId} {size : Nat} {v : Value} {n : Nat} {xs : List Value} (h : w.ownsRow B e size v n xs) : ∃ A c, v = .slice A n c := by
  rcases h.2 with ⟨rfl, rfl⟩ | ⟨g, cap, cur, rfl, _⟩
  · exact ⟨_, _, rfl⟩
  · exact ⟨_, _, rfl⟩
theorem own_block {w : World} {B : Nat} {e : TypeId} {size : Nat} {v : Value} {n : Nat} {xs : List Value} (h : w.ownsRow B e size v n xs) : ∀ k, v.ownBlock = some k → B ≤ k := by
  rcases h.2 with ⟨rfl, rfl⟩ | ⟨g, cap, cur, rfl, hB, _⟩
  · intro k hk; cases hk
  · intro k hk; cases hk; exact hB
theorem info9 : (Tryz.prog.info? 9).map (fun i => (i.zero, i.size, i.bytes)) = some (some (.string ⟨#[]⟩), 1, 16) := by kernel_rfl
theorem text4 (s t XN XB res : ByteArray) (kN nN kB nB : Int) (l : List Bd) (β c β1 o1 cap1 β2 o2 c2 : Nat) (w : World) (hp : PtsAt w β 0 s t) (hl : BdsAt w β1 o1 l) (hn : l.length ≤ 1000)
    (hwN : worth ⟨#[118, 97, 114, 46, 110]⟩ l = .tuple #[.agg #[.int .i64 kN, .int .i64 nN, .string ⟨#[]⟩, .slice none 0 0], .int .i64 0]) (hwB : worth ⟨#[118, 97, 114, 46, 98]⟩ l = .tuple #[.agg #[.int .i64 kB, .int .i64 nB, .string ⟨#[]⟩, .slice none 0 0], .int .i64 0])
    (htN : ∀ W, Below w.heap.size w W → Calls Tryz.prog 80 #[.agg #[.int .i64 kN, .int .i64 nN, .string ⟨#[]⟩, .slice none 0 0]] W fun e w' => e = .returned (.tuple #[.string XN, .int .i64 0]) ∧ Below W.heap.size W w')
    (htB : ∀ W, Below w.heap.size w W → Calls Tryz.prog 80 #[.agg #[.int .i64 kB, .int .i64 nB, .string ⟨#[]⟩, .slice none 0 0]] W fun e w' => e = .returned (.tuple #[.string XB, .int .i64 0]) ∧ Below W.heap.size W w')
    (hj : ∀ W B v, W.ownsRow B 9 1 v 4 [.string s, .string XN, .string t, .string XB] → Calls Tryz.prog 81 #[v] W fun e w' => e = .returned (.tuple #[.agg #[.int .i64 2, .int .i64 0, .string res, .slice none 0 0], .int .i64 0]) ∧ Below W.heap.size W w') :
    Calls Tryz.prog 41 #[.agg #[.slice (some ⟨β1, o1, none⟩) l.length cap1, .slice (some ⟨β2, o2, none⟩) 1 c2], .slice (some ⟨β, 0, none⟩) 4 c] w fun e w' => e = .returned (.tuple #[.agg #[.int .i64 2, .int .i64 0, .string res, .slice none 0 0], .int .i64 0]) ∧ Below w.heap.size w w' := by
  obtain ⟨i0, hi, hz0, hz1, hz2⟩ := info_parts info9
  have Hi := Lib.hid hi
  have Hz0 := Lib.hid hz0
  have Hz1 := Lib.hid hz1
  have Hz2 := Lib.hid hz2
  clear hi hz0 hz1 hz2
  obtain ⟨W0, hW⟩ : ∃ W0, W0 = (w.alloc (Obj.cells #[Value.slice (some ⟨β1, o1, none⟩) l.length cap1, Value.slice (some ⟨β2, o2, none⟩) 1 c2] 70)).alloc (Obj.cells #[Value.int IntKind.i64 0, Value.int IntKind.i64 0, Value.string ⟨#[]⟩, Value.slice none 0 0] 33) := ⟨_, rfl⟩
  have hb : Below w.heap.size w W0 := by rw [hW]; exact ((Below.refl w.heap.size w).alloc (Nat.le_refl _) _).alloc (by simp) _
  have hsz0 : W0.heap.size = w.heap.size + 1 + 1 := by rw [hW]; simp
  have k1 : W0.heap[w.heap.size]? = some (.cells #[Value.slice (some ⟨β1, o1, none⟩) l.length cap1, Value.slice (some ⟨β2, o2, none⟩) 1 c2] 70) := by rw [hW]; exact bk_alloc (bk_new _ _) _
  have k2 : W0.heap[w.heap.size + 1]? = some (.cells #[Value.int IntKind.i64 0, Value.int IntKind.i64 0, Value.string ⟨#[]⟩, Value.slice none 0 0] 33) := by
    rw [hW]; have := bk_new (w.alloc (Obj.cells #[Value.slice (some ⟨β1, o1, none⟩) l.length cap1, Value.slice (some ⟨β2, o2, none⟩) 1 c2] 70)) (Obj.cells #[Value.int IntKind.i64 0, Value.int IntKind.i64 0, Value.string ⟨#[]⟩, Value.slice none 0 0] 33); rw [World.size_alloc] at this; exact this
  have HP0 := Lib.hid (hp.below hb)
  have HL0 := Lib.hid (hl.below hb)
  have HB0 := Lib.hid hb
  have HW := Lib.hid hW
  have HSZ0 := Lib.hid hsz0
  have K1 := Lib.hid k1
  have K2 := Lib.hid k2
  have HTN := Lib.hid htN
  have HTB := Lib.hid htB
  have HJ := Lib.hid hj
  have HWN := Lib.hid hwN
  have HWB := Lib.hid hwB
  clear hp hl hb hW hsz0 k1 k2 htN htB hj hwN hwB
  go_enter Tryz.func41, Tryz.ntmps41
  go_wp2_with fail
  rw [← HW.out]
  clear HW
  have HB00 := Lib.hid (Below.refl W0.heap.size W0)
  refine wp_loop_rounds 5 ?_
  rw [rounds_succ]
  have HA0 : RowKit.Hid (Below W0.heap.size W0 ((W0.alloc (.cells #[.bool false, .string s] 48)).alloc (.cells #[.string s] 9))) := Lib.hid (((Below.refl W0.heap.size W0).alloc (Nat.le_refl _) _).alloc (by simp) _)
  have HZ0 : RowKit.Hid (W0.heap.size ≤ ((W0.alloc (.cells #[.bool false, .string s] 48)).alloc (.cells #[.string s] 9)).heap.size) := Lib.hid (Nat.le_trans HB00.out.size HA0.out.size)
  have HO0 : RowKit.Hid (((W0.alloc (.cells #[.bool false, .string s] 48)).alloc (.cells #[.string s] 9)).ownsRow W0.heap.size 9 1 (.slice none 0 0) 0 []) := Lib.hid (World.ownsRow_nil _ _ _ _)
  have HC0 : RowKit.Hid (∀ j u, [Value.string s][j]? = some u → ((W0.alloc (.cells #[.bool false, .string s] 48)).alloc (.cells #[.string s] 9)).cell? ((⟨W0.heap.size + 1, 0, none⟩ : Addr).add j) = some u) := Lib.hid (by have := cell_one_new (W0.alloc (.cells #[.bool false, .string s] 48)) (.string s) 9; rw [World.size_alloc] at this; exact this)
  obtain ⟨c0, c1, c2', c3, c4, c5, c6, c7⟩ := HP0.out
  go_wp2_with (at_builtin; refine wpList_append_own_at _ rfl _ _ 65 rfl W0.heap.size 9 i0 (.string ⟨#[]⟩) 1 16 Tryz.underlying65 Hi.out Hz0.out Hz1.out Hz2.out rfl (by decide) _ _ _ rfl HO0.out ⟨W0.heap.size + 1, 0, none⟩ 1 1 [.string s] rfl rfl HC0.out (by intro u hu; simp at hu; subst hu; rfl) (by unfold maxLen; omega) (by omega) HZ0.out ?_; intro v1 w1 hown1 hgrow1 hnil hat; have OWN1 := Lib.hid hown1; have HGR1 := Lib.hid hgrow1; clear hown1 hgrow1 hnil hat)
  have HB1 : RowKit.Hid (Below W0.heap.size W0 w1) := Lib.hid ((HB00.out.trans (HA0.out.mono HB00.out.size)).grown HGR1.out HZ0.out (own_block HO0.out))
  clear c0 c1 c2' c3 c4 c5 c6 c7
  clear HA0 HZ0 HO0 HC0 HGR1
  have OWN1 : RowKit.Hid (w1.ownsRow W0.heap.size 9 1 v1 1 [.string s]) := OWN1
  obtain ⟨A1, cc1, rfl⟩ := own_len OWN1.out
  go_wp2_with fail
  rw [rounds_succ]
  obtain ⟨c0, c1, c2', c3, c4, c5, c6, c7⟩ := HP0.out.below HB1.out
  have q1 := cell_alloc (.cells #[.bool true, .string ⟨#[118, 97, 114, 46, 110]⟩] 48) (show w1.cell? ⟨w.heap.size, 0, none⟩ = some (.slice (some ⟨β1, o1, none⟩) l.length cap1) from (bk_cell (bk_below K1.out HB1.out) 0).trans rfl)
  go_wp2_with fail
  have HA1 : RowKit.Hid (Below w1.heap.size w1 (w1.alloc (.cells #[.bool true, .string ⟨#[118, 97, 114, 46, 110]⟩] 48))) := Lib.hid ((Below.refl w1.heap.size w1).alloc (Nat.le_refl _) _)
  have HBa1 := Lib.hid (HB1.out.trans (HA1.out.mono HB1.out.size))
  refine (value_any l ⟨#[118, 97, 114, 46, 110]⟩ β1 o1 cap1 _ (HL0.out.below HBa1.out) hn).mono ?_
  rintro e x1 ⟨rfl, hx1⟩
  rw [HWN.out]
  have HX1 := Lib.hid (HBa1.out.trans (hx1.mono HBa1.out.size))
  have HXo1 := Lib.hid (HA1.out.trans (hx1.mono HA1.out.size))
  clear hx1 q1 HA1 HBa1
  clear c0 c1 c2' c3 c4 c5 c6 c7
  go_wp2_with fail
  have HY1 : RowKit.Hid (Below x1.heap.size x1 (x1.alloc (.cells #[.int .i64 kN, .int .i64 nN, .string ⟨#[]⟩, .slice none 0 0] 33))) := Lib.hid ((Below.refl x1.heap.size x1).alloc (Nat.le_refl _) _)
  have HYb1 := Lib.hid (HX1.out.trans (HY1.out.mono HX1.out.size))
  refine (HTN.out _ (HB0.out.trans (HYb1.out.mono HB0.out.size))).mono ?_
  rintro e y1 ⟨rfl, hy1⟩
  have HYc1 := Lib.hid (HYb1.out.trans (hy1.mono HYb1.out.size))
  have HYo1 := Lib.hid (HXo1.out.trans ((HY1.out.trans (hy1.mono HY1.out.size)).mono HXo1.out.size))
  clear hy1 HY1 HYb1 HX1 HXo1
  have HD1 : RowKit.Hid (Below y1.heap.size y1 (y1.alloc (.cells #[.string XN] 9))) := Lib.hid ((Below.refl y1.heap.size y1).alloc (Nat.le_refl _) _)
  have HZ1 : RowKit.Hid (W0.heap.size ≤ (y1.alloc (.cells #[.string XN] 9)).heap.size) := Lib.hid (Nat.le_trans HYc1.out.size HD1.out.size)
  have HO1 : RowKit.Hid ((y1.alloc (.cells #[.string XN] 9)).ownsRow W0.heap.size 9 1 (.slice A1 1 cc1) 1 [.string s]) := Lib.hid (own_below (own_below OWN1.out HYo1.out) HD1.out)
  go_wp2_with (at_builtin; refine wpList_append_own_at _ rfl _ _ 65 rfl W0.heap.size 9 i0 (.string ⟨#[]⟩) 1 16 Tryz.underlying65 Hi.out Hz0.out Hz1.out Hz2.out rfl (by decide) _ _ _ rfl HO1.out ⟨y1.heap.size, 0, none⟩ 1 1 [.string XN] rfl rfl (cell_one_new _ _ _) (by intro u hu; simp at hu; subst hu; rfl) (by unfold maxLen; omega) (by omega) HZ1.out ?_; intro v2 w2 hown2 hgrow2 hnil hat; have OWN2 := Lib.hid hown2; have HGR2 := Lib.hid hgrow2; clear hown2 hgrow2 hnil hat)
  have HB2 : RowKit.Hid (Below W0.heap.size W0 w2) := Lib.hid ((HYc1.out.trans (HD1.out.mono HYc1.out.size)).grown HGR2.out HZ1.out (own_block HO1.out))
  clear HD1 HZ1 HO1 HYc1 HYo1 HGR2
  have OWN2 : RowKit.Hid (w2.ownsRow W0.heap.size 9 1 v2 2 [.string s, .string XN]) := OWN2
  obtain ⟨A2, cc2, rfl⟩ := own_len OWN2.out
  go_wp2_with fail
  rw [rounds_succ]
  have HA2 : RowKit.Hid (Below w2.heap.size w2 ((w2.alloc (.cells #[.bool false, .string t] 48)).alloc (.cells #[.string t] 9))) := Lib.hid (((Below.refl w2.heap.size w2).alloc (Nat.le_refl _) _).alloc (by simp) _)
  have HZ2 : RowKit.Hid (W0.heap.size ≤ ((w2.alloc (.cells #[.bool false, .string t] 48)).alloc (.cells #[.string t] 9)).heap.size) := Lib.hid (Nat.le_trans HB2.out.size HA2.out.size)
  have HO2 : RowKit.Hid (((w2.alloc (.cells #[.bool false, .string t] 48)).alloc (.cells #[.string t] 9)).ownsRow W0.heap.size 9 1 (.slice A2 2 cc2) 2 [.string s, .string XN]) := Lib.hid (own_below OWN2.out HA2.out)
  have HC2 : RowKit.Hid (∀ j u, [Value.string t][j]? = some u → ((w2.alloc (.cells #[.bool false, .string t] 48)).alloc (.cells #[.string t] 9)).cell? ((⟨w2.heap.size + 1, 0, none⟩ : Addr).add j) = some u) := Lib.hid (by have := cell_one_new (w2.alloc (.cells #[.bool false, .string t] 48)) (.string t) 9; rw [World.size_alloc] at this; exact this)
  obtain ⟨c0, c1, c2', c3, c4, c5, c6, c7⟩ := HP0.out.below HB2.out
  go_wp2_with (at_builtin; refine wpList_append_own_at _ rfl _ _ 65 rfl W0.heap.size 9 i0 (.string ⟨#[]⟩) 1 16 Tryz.underlying65 Hi.out Hz0.out Hz1.out Hz2.out rfl (by decide) _ _ _ rfl HO2.out ⟨w2.heap.size + 1, 0, none⟩ 1 1 [.string t] rfl rfl HC2.out (by intro u hu; simp at hu; subst hu; rfl) (by unfold maxLen; omega) (by omega) HZ2.out ?_; intro v3 w3 hown3 hgrow3 hnil hat; have OWN3 := Lib.hid hown3; have HGR3 := Lib.hid hgrow3; clear hown3 hgrow3 hnil hat)
  have HB3 : RowKit.Hid (Below W0.heap.size W0 w3) := Lib.hid ((HB2.out.trans (HA2.out.mono HB2.out.size)).grown HGR3.out HZ2.out (own_block HO2.out))
  clear c0 c1 c2' c3 c4 c5 c6 c7
  clear HA2 HZ2 HO2 HC2 HGR3
  have OWN3 : RowKit.Hid (w3.ownsRow W0.heap.size 9 1 v3 3 [.string s, .string XN, .string t]) := OWN3
  obtain ⟨A3, cc3, rfl⟩ := own_len OWN3.out
  go_wp2_with fail
  rw [rounds_succ]
  obtain ⟨c0, c1, c2', c3, c4, c5, c6, c7⟩ := HP0.out.below HB3.out
  have q3 := cell_alloc (.cells #[.bool true, .string ⟨#[118, 97, 114, 46, 98]⟩] 48) (show w3.cell? ⟨w.heap.size, 0, none⟩ = some (.slice (some ⟨β1, o1, none⟩) l.length cap1) from (bk_cell (bk_below K1.out HB3.out) 0).trans rfl)
  go_wp2_with fail
  have HA3 : RowKit.Hid (Below w3.heap.size w3 (w3.alloc (.cells #[.bool true, .string ⟨#[118, 97, 114, 46, 98]⟩] 48))) := Lib.hid ((Below.refl w3.heap.size w3).alloc (Nat.le_refl _) _)
  have HBa3 := Lib.hid (HB3.out.trans (HA3.out.mono HB3.out.size))
  refine (value_any l ⟨#[118, 97, 114, 46, 98]⟩ β1 o1 cap1 _ (HL0.out.below HBa3.out) hn).mono ?_
  rintro e x3 ⟨rfl, hx3⟩
  rw [HWB.out]
  have HX3 := Lib.hid (HBa3.out.trans (hx3.mono HBa3.out.size))
  have HXo3 := Lib.hid (HA3.out.trans (hx3.mono HA3.out.size))
  clear hx3 q3 HA3 HBa3
  clear c0 c1 c2' c3 c4 c5 c6 c7
  go_wp2_with fail
  have HY3 : RowKit.Hid (Below x3.heap.size x3 (x3.alloc (.cells #[.int .i64 kB, .int .i64 nB, .string ⟨#[]⟩, .slice none 0 0] 33))) := Lib.hid ((Below.refl x3.heap.size x3).alloc (Nat.le_refl _) _)
  have HYb3 := Lib.hid (HX3.out.trans (HY3.out.mono HX3.out.size))
  refine (HTB.out _ (HB0.out.trans (HYb3.out.mono HB0.out.size))).mono ?_
  rintro e y3 ⟨rfl, hy3⟩
  have HYc3 := Lib.hid (HYb3.out.trans (hy3.mono HYb3.out.size))
  have HYo3 := Lib.hid (HXo3.out.trans ((HY3.out.trans (hy3.mono HY3.out.size)).mono HXo3.out.size))
  clear hy3 HY3 HYb3 HX3 HXo3
  have HD3 : RowKit.Hid (Below y3.heap.size y3 (y3.alloc (.cells #[.string XB] 9))) := Lib.hid ((Below.refl y3.heap.size y3).alloc (Nat.le_refl _) _)
  have HZ3 : RowKit.Hid (W0.heap.size ≤ (y3.alloc (.cells #[.string XB] 9)).heap.size) := Lib.hid (Nat.le_trans HYc3.out.size HD3.out.size)
  have HO3 : RowKit.Hid ((y3.alloc (.cells #[.string XB] 9)).ownsRow W0.heap.size 9 1 (.slice A3 3 cc3) 3 [.string s, .string XN, .string t]) := Lib.hid (own_below (own_below OWN3.out HYo3.out) HD3.out)
  go_wp2_with (at_builtin; refine wpList_append_own_at _ rfl _ _ 65 rfl W0.heap.size 9 i0 (.string ⟨#[]⟩) 1 16 Tryz.underlying65 Hi.out Hz0.out Hz1.out Hz2.out rfl (by decide) _ _ _ rfl HO3.out ⟨y3.heap.size, 0, none⟩ 1 1 [.string XB] rfl rfl (cell_one_new _ _ _) (by intro u hu; simp at hu; subst hu; rfl) (by unfold maxLen; omega) (by omega) HZ3.out ?_; intro v4 w4 hown4 hgrow4 hnil hat; have OWN4 := Lib.hid hown4; have HGR4 := Lib.hid hgrow4; clear hown4 hgrow4 hnil hat)
  have HB4 : RowKit.Hid (Below W0.heap.size W0 w4) := Lib.hid ((HYc3.out.trans (HD3.out.mono HYc3.out.size)).grown HGR4.out HZ3.out (own_block HO3.out))
  clear HD3 HZ3 HO3 HYc3 HYo3 HGR4
  have OWN4 : RowKit.Hid (w4.ownsRow W0.heap.size 9 1 v4 4 [.string s, .string XN, .string t, .string XB]) := OWN4
  obtain ⟨A4, cc4, rfl⟩ := own_len OWN4.out
  go_wp2_with fail
  rw [rounds_succ]
  go_wp2_with fail
  refine (HJ.out _ _ _ OWN4.out).mono ?_
  rintro e z ⟨rfl, hz⟩
  have hbz := HB4.out.trans (hz.mono HB4.out.size)
  have g := bk_below K2.out hbz
  have hbb := HB0.out.trans (hbz.mono HB0.out.size)
  have HS := Lib.hid hbb.size
  have d0 : z.cell? ⟨w.heap.size + 1, 0, none⟩ = some (.int .i64 0) := (bk_cell g 0).trans rfl
  have d1 : z.cell? ⟨w.heap.size + 1, 1, none⟩ = some (.int .i64 0) := (bk_cell g 1).trans rfl
  have d2 : z.cell? ⟨w.heap.size + 1, 2, none⟩ = some (.string ⟨#[]⟩) := (bk_cell g 2).trans rfl
  have d3 : z.cell? ⟨w.heap.size + 1, 3, none⟩ = some (.slice none 0 0) := (bk_cell g 3).trans rfl
  have f0 : z.frozen? ⟨w.heap.size + 1, 0, none⟩ = false := bk_frozen g 0
  have f1 : z.frozen? ⟨w.heap.size + 1, 1, none⟩ = false := bk_frozen g 1
  have f2 : z.frozen? ⟨w.heap.size + 1, 2, none⟩ = false := bk_frozen g 2
  have f3 : z.frozen? ⟨w.heap.size + 1, 3, none⟩ = false := bk_frozen g 3
  clear g hz hbz
  go_wp2_with fail
  refine bodyPost_ret (v := .tuple #[.agg #[.int .i64 2, .int .i64 0, .string res, .slice none 0 0], .int .i64 0]) (by simp [results, Tryz.results41, go_sem, d0, d1, d2, d3]) rfl ⟨rfl, (((hbb.setCell (p := ⟨w.heap.size + 1, 0, none⟩) (by simp only; omega) _).setCell (p := ⟨w.heap.size + 1, 1, none⟩) (by simp only; omega) _).setCell (p := ⟨w.heap.size + 1, 2, none⟩) (by simp only; omega) _).setCell (p := ⟨w.heap.size + 1, 3, none⟩) (by simp only; omega) _⟩
end Go.Proofs.YteopodohghnokaaGreatDoor
