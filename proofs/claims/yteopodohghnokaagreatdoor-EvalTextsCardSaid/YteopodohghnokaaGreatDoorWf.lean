/- A text of four parts as an expression: the walks. -/
import Derived.Test.YteopodohghnokaaGreatDoorWe
namespace Go.Proofs.YteopodohghnokaaGreatDoor
open Go Go.Proofs Go.RowKit Go.Shelf
set_option maxRecDepth 100000
set_option linter.unusedSimpArgs false
set_option linter.unusedVariables false
set_option maxHeartbeats 4000000

theorem textbad (s t : ByteArray) (l : List Bd) (β c β1 o1 cap1 β2 o2 c2 : Nat) (w : World) (hp : PtsAt w β 0 s t) (hl : BdsAt w β1 o1 l) (hn : l.length ≤ 1000)
    (hwN : worth ⟨#[118, 97, 114, 46, 110]⟩ l = .tuple #[.agg #[.int .i64 4, .int .i64 0, .string ⟨#[]⟩, .slice none 0 0], .int .i64 0]) :
    Calls Tryz.prog 41 #[.agg #[.slice (some ⟨β1, o1, none⟩) l.length cap1, .slice (some ⟨β2, o2, none⟩) 1 c2], .slice (some ⟨β, 0, none⟩) 4 c] w fun e w' => e = .returned (.tuple #[.agg #[.int .i64 0, .int .i64 0, .string ⟨#[]⟩, .slice none 0 0], .int .i64 7]) ∧ Below w.heap.size w w' := by
  obtain ⟨i0, hi, hz0, hz1, hz2⟩ := info_parts info9
  have Hi := Lib.hid hi
  have Hz0 := Lib.hid hz0
  have Hz1 := Lib.hid hz1
  have Hz2 := Lib.hid hz2
  clear hi hz0 hz1 hz2
  obtain ⟨W0, hW⟩ : ∃ W0, W0 = (w.alloc (Obj.cells #[Value.slice (some ⟨β1, o1, none⟩) l.length cap1, Value.slice (some ⟨β2, o2, none⟩) 1 c2] 70)).alloc (Obj.cells #[Value.int IntKind.i64 0, Value.int IntKind.i64 0, Value.string ⟨#[]⟩, Value.slice none 0 0] 33) := ⟨_, rfl⟩
  have hb : Below w.heap.size w W0 := by rw [hW]; exact ((Below.refl w.heap.size w).alloc (Nat.le_refl _) _).alloc (by simp) _
  have hsz0 : W0.heap.size = w.heap.size + 1 + 1 := by rw [hW]; simp
  have k1 : W0.heap[w.heap.size]? = some (.cells #[Value.slice (some ⟨β1, o1, none⟩) l.length cap1, Value.slice (some ⟨β2, o2, none⟩) 1 c2] 70) := by rw [hW]; exact bk_alloc (bk_new _ _) _
  have k2 : W0.heap[w.heap.size + 1]? = some (.cells #[Value.int IntKind.i64 0, Value.int IntKind.i64 0, Value.string ⟨#[]⟩, Value.slice none 0 0] 33) := by
    rw [hW]; have := bk_new (w.alloc (Obj.cells #[Value.slice (some ⟨β1, o1, none⟩) l.length cap1, Value.slice (some ⟨β2, o2, none⟩) 1 c2] 70)) (Obj.cells #[Value.int IntKind.i64 0, Value.int IntKind.i64 0, Value.string ⟨#[]⟩, Value.slice none 0 0] 33); rw [World.size_alloc] at this; exact this
  have HP0 := Lib.hid (hp.below hb)
  have HL0 := Lib.hid (hl.below hb)
  have HB0 := Lib.hid hb
  have HW := Lib.hid hW
  have HSZ0 := Lib.hid hsz0
  have K1 := Lib.hid k1
  have K2 := Lib.hid k2
  have HWN := Lib.hid hwN
  clear hp hl hb hW hsz0 k1 k2 hwN
  go_enter Tryz.func41, Tryz.ntmps41
  go_wp2_with fail
  rw [← HW.out]
  clear HW
  have HB00 := Lib.hid (Below.refl W0.heap.size W0)
  refine wp_loop_rounds 5 ?_
  rw [rounds_succ]
  have HA0 : RowKit.Hid (Below W0.heap.size W0 ((W0.alloc (.cells #[.bool false, .string s] 48)).alloc (.cells #[.string s] 9))) := Lib.hid (((Below.refl W0.heap.size W0).alloc (Nat.le_refl _) _).alloc (by simp) _)
  have HZ0 : RowKit.Hid (W0.heap.size ≤ ((W0.alloc (.cells #[.bool false, .string s] 48)).alloc (.cells #[.string s] 9)).heap.size) := Lib.hid (Nat.le_trans HB00.out.size HA0.out.size)
  have HO0 : RowKit.Hid (((W0.alloc (.cells #[.bool false, .string s] 48)).alloc (.cells #[.string s] 9)).ownsRow W0.heap.size 9 1 (.slice none 0 0) 0 []) := Lib.hid (World.ownsRow_nil _ _ _ _)
  have HC0 : RowKit.Hid (∀ j u, [Value.string s][j]? = some u → ((W0.alloc (.cells #[.bool false, .string s] 48)).alloc (.cells #[.string s] 9)).cell? ((⟨W0.heap.size + 1, 0, none⟩ : Addr).add j) = some u) := Lib.hid (by have := cell_one_new (W0.alloc (.cells #[.bool false, .string s] 48)) (.string s) 9; rw [World.size_alloc] at this; exact this)
  obtain ⟨c0, c1, c2', c3, c4, c5, c6, c7⟩ := HP0.out
  go_wp2_with (at_builtin; refine wpList_append_own_at _ rfl _ _ 65 rfl W0.heap.size 9 i0 (.string ⟨#[]⟩) 1 16 Tryz.underlying65 Hi.out Hz0.out Hz1.out Hz2.out rfl (by decide) _ _ _ rfl HO0.out ⟨W0.heap.size + 1, 0, none⟩ 1 1 [.string s] rfl rfl HC0.out (by intro u hu; simp at hu; subst hu; rfl) (by unfold maxLen; omega) (by omega) HZ0.out ?_; intro v1 w1 hown1 hgrow1 hnil hat; have OWN1 := Lib.hid hown1; have HGR1 := Lib.hid hgrow1; clear hown1 hgrow1 hnil hat)
  have HB1 : RowKit.Hid (Below W0.heap.size W0 w1) := Lib.hid ((HB00.out.trans (HA0.out.mono HB00.out.size)).grown HGR1.out HZ0.out (own_block HO0.out))
  clear c0 c1 c2' c3 c4 c5 c6 c7
  clear HA0 HZ0 HO0 HC0 HGR1
  have OWN1 : RowKit.Hid (w1.ownsRow W0.heap.size 9 1 v1 1 [.string s]) := OWN1
  obtain ⟨A1, cc1, rfl⟩ := own_len OWN1.out
  go_wp2_with fail
  rw [rounds_succ]
  obtain ⟨c0, c1, c2', c3, c4, c5, c6, c7⟩ := HP0.out.below HB1.out
  have q1 := cell_alloc (.cells #[.bool true, .string ⟨#[118, 97, 114, 46, 110]⟩] 48) (show w1.cell? ⟨w.heap.size, 0, none⟩ = some (.slice (some ⟨β1, o1, none⟩) l.length cap1) from (bk_cell (bk_below K1.out HB1.out) 0).trans rfl)
  go_wp2_with fail
  have HA1 : RowKit.Hid (Below w1.heap.size w1 (w1.alloc (.cells #[.bool true, .string ⟨#[118, 97, 114, 46, 110]⟩] 48))) := Lib.hid ((Below.refl w1.heap.size w1).alloc (Nat.le_refl _) _)
  have HBa1 := Lib.hid (HB1.out.trans (HA1.out.mono HB1.out.size))
  refine (value_any l ⟨#[118, 97, 114, 46, 110]⟩ β1 o1 cap1 _ (HL0.out.below HBa1.out) hn).mono ?_
  rintro e x1 ⟨rfl, hx1⟩
  rw [HWN.out]
  have HX1 := Lib.hid (HBa1.out.trans (hx1.mono HBa1.out.size))
  have HXo1 := Lib.hid (HA1.out.trans (hx1.mono HA1.out.size))
  clear hx1 q1 HA1 HBa1
  clear c0 c1 c2' c3 c4 c5 c6 c7
  go_wp2_with fail
  have HY1 : RowKit.Hid (Below x1.heap.size x1 (x1.alloc (.cells #[.int .i64 4, .int .i64 0, .string ⟨#[]⟩, .slice none 0 0] 33))) := Lib.hid ((Below.refl x1.heap.size x1).alloc (Nat.le_refl _) _)
  have HYb1 := Lib.hid (HX1.out.trans (HY1.out.mono HX1.out.size))
  refine (textL _).mono ?_
  rintro e y1 ⟨rfl, hy1⟩
  have hbz := HYb1.out.trans (hy1.mono HYb1.out.size)
  have g := bk_below K2.out hbz
  have hbb := HB0.out.trans (hbz.mono HB0.out.size)
  have HS := Lib.hid hbb.size
  have d0 : y1.cell? ⟨w.heap.size + 1, 0, none⟩ = some (.int .i64 0) := (bk_cell g 0).trans rfl
  have d1 : y1.cell? ⟨w.heap.size + 1, 1, none⟩ = some (.int .i64 0) := (bk_cell g 1).trans rfl
  have d2 : y1.cell? ⟨w.heap.size + 1, 2, none⟩ = some (.string ⟨#[]⟩) := (bk_cell g 2).trans rfl
  have d3 : y1.cell? ⟨w.heap.size + 1, 3, none⟩ = some (.slice none 0 0) := (bk_cell g 3).trans rfl
  have f0 : y1.frozen? ⟨w.heap.size + 1, 0, none⟩ = false := bk_frozen g 0
  have f1 : y1.frozen? ⟨w.heap.size + 1, 1, none⟩ = false := bk_frozen g 1
  have f2 : y1.frozen? ⟨w.heap.size + 1, 2, none⟩ = false := bk_frozen g 2
  have f3 : y1.frozen? ⟨w.heap.size + 1, 3, none⟩ = false := bk_frozen g 3
  clear g hy1 hbz
  go_wp2_with fail
  refine bodyPost_ret (v := .tuple #[.agg #[.int .i64 0, .int .i64 0, .string ⟨#[]⟩, .slice none 0 0], .int .i64 7]) (by simp [results, Tryz.results41, go_sem, d0, d1, d2, d3]) rfl ⟨rfl, (((hbb.setCell (p := ⟨w.heap.size + 1, 0, none⟩) (by simp only; omega) _).setCell (p := ⟨w.heap.size + 1, 1, none⟩) (by simp only; omega) _).setCell (p := ⟨w.heap.size + 1, 2, none⟩) (by simp only; omega) _).setCell (p := ⟨w.heap.size + 1, 3, none⟩) (by simp only; omega) _⟩
theorem node_str (l : List Bd) (k n er : Int) (s : ByteArray) (x : ByteArray) (β o cap β2 o2 c2 n3 c3 n4 c4 : Nat) (num : Int) (A3 A4 : Option Addr) (w : World) (hd : NdAt w β2 o2 2 num x A3 A4 n3 c3 n4 c4)
    (ht : ∀ W, Below w.heap.size w W → Calls Tryz.prog 41 #[.agg #[.slice (some ⟨β, o, none⟩) l.length cap, .slice (some ⟨β2, o2, none⟩) 1 c2], .slice A3 n3 c3] W fun e w' => e = .returned (.tuple #[.agg #[.int .i64 k, .int .i64 n, .string s, .slice none 0 0], .int .i64 er]) ∧ Below W.heap.size W w') :
    Calls Tryz.prog 25 #[.agg #[.slice (some ⟨β, o, none⟩) l.length cap, .slice (some ⟨β2, o2, none⟩) 1 c2], .int .i64 0] w fun e w' => e = .returned (.tuple #[.agg #[.int .i64 k, .int .i64 n, .string s, .slice none 0 0], .int .i64 er]) ∧ Below w.heap.size w w' := by
  obtain ⟨W, hW⟩ : ∃ W, W = (w.alloc (Obj.cells #[Value.slice (some ⟨β, o, none⟩) l.length cap, Value.slice (some ⟨β2, o2, none⟩) 1 c2] 70)).alloc (Obj.cells #[Value.int IntKind.i64 0, Value.int IntKind.i64 0, Value.string ⟨#[]⟩, Value.slice none 0 0] 33) := ⟨_, rfl⟩
  have hb : Below w.heap.size w W := by rw [hW]; exact ((Below.refl w.heap.size w).alloc (Nat.le_refl _) _).alloc (by simp) _
  have hs : W.heap.size = w.heap.size + 1 + 1 := by rw [hW]; simp
  have k1 : W.heap[w.heap.size]? = some (.cells #[Value.slice (some ⟨β, o, none⟩) l.length cap, Value.slice (some ⟨β2, o2, none⟩) 1 c2] 70) := by rw [hW]; exact bk_alloc (bk_new _ _) _
  have k2 : W.heap[w.heap.size + 1]? = some (.cells #[Value.int IntKind.i64 0, Value.int IntKind.i64 0, Value.string ⟨#[]⟩, Value.slice none 0 0] 33) := by
    rw [hW]; have := bk_new (w.alloc (Obj.cells #[Value.slice (some ⟨β, o, none⟩) l.length cap, Value.slice (some ⟨β2, o2, none⟩) 1 c2] 70)) (Obj.cells #[Value.int IntKind.i64 0, Value.int IntKind.i64 0, Value.string ⟨#[]⟩, Value.slice none 0 0] 33); rw [World.size_alloc] at this; exact this
  have q := hd.below hb
  have HT := Lib.hid ht
  have HB := Lib.hid hb
  have K1 := Lib.hid k1
  have K2 := Lib.hid k2
  have HW := Lib.hid hW
  rw [hW] at q
  obtain ⟨q0, q1, q2, q3, q4⟩ := q
  clear ht hb k1 k2 hd hW
  go_enter Tryz.func25, Tryz.ntmps25
  go_wp2_with fail
  rw [← HW.out]
  obtain ⟨W2, hW2⟩ : ∃ W2, W2 = W.alloc (Obj.cells #[Value.int IntKind.i64 2, Value.int IntKind.i64 num, Value.string x, Value.slice A3 n3 c3, Value.slice A4 n4 c4] 29) := ⟨_, rfl⟩
  have hB2 : Below W.heap.size W W2 := by rw [hW2]; exact (Below.refl _ _).alloc (Nat.le_refl _) _
  rw [← hW2]
  clear hW2 HW q0 q1 q2 q3 q4
  refine (HT.out W2 (HB.out.trans (hB2.mono HB.out.size))).mono ?_
  rintro e w2 ⟨rfl, hb2⟩
  have hb3 := hB2.trans (hb2.mono hB2.size)
  have g3 := bk_below K2.out hb3
  have hbb := HB.out.trans (hb3.mono HB.out.size)
  have HS := Lib.hid HB.out.size
  clear hb2 hb3 hB2 HT K1 K2
  have d0 : w2.cell? ⟨w.heap.size + 1, 0, none⟩ = some (.int .i64 0) := (bk_cell g3 0).trans rfl
  have d1 : w2.cell? ⟨w.heap.size + 1, 1, none⟩ = some (.int .i64 0) := (bk_cell g3 1).trans rfl
  have d2 : w2.cell? ⟨w.heap.size + 1, 2, none⟩ = some (.string ⟨#[]⟩) := (bk_cell g3 2).trans rfl
  have d3 : w2.cell? ⟨w.heap.size + 1, 3, none⟩ = some (.slice none 0 0) := (bk_cell g3 3).trans rfl
  have f0 : w2.frozen? ⟨w.heap.size + 1, 0, none⟩ = false := bk_frozen g3 0
  have f1 : w2.frozen? ⟨w.heap.size + 1, 1, none⟩ = false := bk_frozen g3 1
  have f2 : w2.frozen? ⟨w.heap.size + 1, 2, none⟩ = false := bk_frozen g3 2
  have f3 : w2.frozen? ⟨w.heap.size + 1, 3, none⟩ = false := bk_frozen g3 3
  clear g3 hs
  go_wp2_with fail
  refine bodyPost_ret (v := .tuple #[.agg #[.int .i64 k, .int .i64 n, .string s, .slice none 0 0], .int .i64 er]) (by simp [results, Tryz.results25, go_sem, d0, d1, d2, d3]) rfl ⟨rfl, (((hbb.setCell (p := ⟨w.heap.size + 1, 0, none⟩) (by simp only; omega) _).setCell (p := ⟨w.heap.size + 1, 1, none⟩) (by simp only; omega) _).setCell (p := ⟨w.heap.size + 1, 2, none⟩) (by simp only; omega) _).setCell (p := ⟨w.heap.size + 1, 3, none⟩) (by simp only; omega) _⟩
theorem expr_str (l : List Bd) (k n er : Int) (s x : ByteArray) (β o cap β2 o2 c2 n3 c3 c4 : Nat) (num : Int) (A3 A4 : Option Addr) (w : World) (hd : NdAt w β2 o2 2 num x A3 A4 n3 c3 0 c4)
    (hp : ∀ W, Below w.heap.size w W → Calls Tryz.prog 78 #[.agg #[.int .i64 2, .int .i64 num, .string x, .slice A3 n3 c3, .slice A4 0 c4]] W fun e w' => e = .returned (.bool true) ∧ Below W.heap.size W w')
    (ht : ∀ W, Below w.heap.size w W → Calls Tryz.prog 41 #[.agg #[.slice (some ⟨β, o, none⟩) l.length cap, .slice (some ⟨β2, o2, none⟩) 1 c2], .slice A3 n3 c3] W fun e w' => e = .returned (.tuple #[.agg #[.int .i64 k, .int .i64 n, .string s, .slice none 0 0], .int .i64 er]) ∧ Below W.heap.size W w') :
    Calls Tryz.prog 10 #[.slice (some ⟨β2, o2, none⟩) 1 c2, .slice (some ⟨β, o, none⟩) l.length cap] w fun e w' => e = .returned (.tuple #[.agg #[.int .i64 k, .int .i64 n, .string s, .slice none 0 0], .int .i64 er]) ∧ Below w.heap.size w w' := by
  obtain ⟨W, hW⟩ : ∃ W, W = w.alloc (Obj.cells #[Value.int IntKind.i64 0, Value.int IntKind.i64 0, Value.string ⟨#[]⟩, Value.slice none 0 0] 33) := ⟨_, rfl⟩
  have hb : Below w.heap.size w W := by rw [hW]; exact (Below.refl w.heap.size w).alloc (Nat.le_refl _) _
  have k1 : W.heap[w.heap.size]? = some (.cells #[Value.int IntKind.i64 0, Value.int IntKind.i64 0, Value.string ⟨#[]⟩, Value.slice none 0 0] 33) := by rw [hW]; exact bk_new _ _
  have HT := Lib.hid (tree_one true 2 num x A3 A4 n3 c3 c4 β2 o2 c2 W (hd.below hb) kids2 (fun W2 h => hp W2 (hb.trans (h.mono hb.size))))
  have HT2 := Lib.hid (fun W2 (h : Below W.heap.size W W2) => ht W2 (hb.trans (h.mono hb.size)))
  have HD := Lib.hid (hd.below hb)
  have HB := Lib.hid hb
  have K1 := Lib.hid k1
  have HW := Lib.hid hW
  clear ht hd hp hb k1 hW
  go_enter Tryz.func10, Tryz.ntmps10
  go_wp2_with fail
  rw [← HW.out]
  refine HT.out.mono ?_
  clear HT HW
  rintro e w2 ⟨rfl, hb2⟩
  have g1 := bk_below K1.out hb2
  have hbb := HB.out.trans (hb2.mono HB.out.size)
  have HT3 := Lib.hid (fun W2 (h : Below w2.heap.size w2 W2) => HT2.out W2 (hb2.trans (h.mono hb2.size)))
  have HD2 := Lib.hid (HD.out.below hb2)
  have HS := Lib.hid hbb.size
  clear K1 HT2 HD HB hb2
  go_wp2_with fail
  refine (node_str l k n er s x β o cap β2 o2 c2 n3 c3 0 c4 num A3 A4 w2 HD2.out HT3.out).mono ?_
  rintro e w3 ⟨rfl, hb3⟩
  have g3 := bk_below g1 hb3
  have hbc := hbb.trans (hb3.mono hbb.size)
  clear hb3 hbb g1
  have d0 : w3.cell? ⟨w.heap.size, 0, none⟩ = some (.int .i64 0) := (bk_cell g3 0).trans rfl
  have d1 : w3.cell? ⟨w.heap.size, 1, none⟩ = some (.int .i64 0) := (bk_cell g3 1).trans rfl
  have d2 : w3.cell? ⟨w.heap.size, 2, none⟩ = some (.string ⟨#[]⟩) := (bk_cell g3 2).trans rfl
  have d3 : w3.cell? ⟨w.heap.size, 3, none⟩ = some (.slice none 0 0) := (bk_cell g3 3).trans rfl
  have f0 : w3.frozen? ⟨w.heap.size, 0, none⟩ = false := bk_frozen g3 0
  have f1 : w3.frozen? ⟨w.heap.size, 1, none⟩ = false := bk_frozen g3 1
  have f2 : w3.frozen? ⟨w.heap.size, 2, none⟩ = false := bk_frozen g3 2
  have f3 : w3.frozen? ⟨w.heap.size, 3, none⟩ = false := bk_frozen g3 3
  clear g3
  go_wp2_with fail
  refine bodyPost_ret (v := .tuple #[.agg #[.int .i64 k, .int .i64 n, .string s, .slice none 0 0], .int .i64 er]) (by simp [results, Tryz.results10, go_sem, d0, d1, d2, d3]) rfl ⟨rfl, (((hbc.setCell (p := ⟨w.heap.size, 0, none⟩) (by simp only; omega) _).setCell (p := ⟨w.heap.size, 1, none⟩) (by simp only; omega) _).setCell (p := ⟨w.heap.size, 2, none⟩) (by simp only; omega) _).setCell (p := ⟨w.heap.size, 3, none⟩) (by simp only; omega) _⟩
end Go.Proofs.YteopodohghnokaaGreatDoor
