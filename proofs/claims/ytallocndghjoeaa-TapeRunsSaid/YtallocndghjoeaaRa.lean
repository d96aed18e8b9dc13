/- Walks of the reference's tape: sides with a change done. -/
import Derived.Test.YtallocndghjoeaaTo
namespace Go.Proofs.Ytallocndghjoeaa
open Go.RowKit Go.Proofs.YtallocndghjoeaaW.PrintWords
set_option linter.unusedVariables false

/-- A list of two texts. -/
def PairAt (w : World) (base : Nat) (v : Value) (x y : ByteArray) : Prop :=
  ∃ g c cur, v = .slice (some ⟨g, 0, none⟩) 2 c ∧ base ≤ g ∧ w.heap[g]? = some (.cells cur 9 (0, 0)) ∧ cur[0]? = some (.string x) ∧ cur[1]? = some (.string y)

theorem blk_new2 (w : World) (a b c : Obj) : (((w.alloc a).alloc b).alloc c).heap[w.heap.size + 1 + 1]? = some c := by
  have := blk_new ((w.alloc a).alloc b) c
  rwa [show ((w.alloc a).alloc b).heap.size = w.heap.size + 1 + 1 by simp] at this

theorem PairAt.below {w w' : World} {base : Nat} {v : Value} {x y : ByteArray} (h : PairAt w base v x y) (hb : Below w.heap.size w w') : PairAt w' base v x y := by
  obtain ⟨g, c, cur, h1, h2, h3, h4⟩ := h
  exact ⟨g, c, cur, h1, h2, blk_below h3 hb, h4⟩
theorem PairAt.mono {w : World} {base base' : Nat} {v : Value} {x y : ByteArray} (h : PairAt w base v x y) (hb : base' ≤ base) : PairAt w base' v x y := by
  obtain ⟨g, c, cur, h1, h2, h4⟩ := h
  exact ⟨g, c, cur, h1, Nat.le_trans hb h2, h4⟩

theorem set_same (a : Array Value) (i : Nat) (u v : Value) (h : a[i]? = some v) : (a.setIfInBounds i u)[i]? = some u := by
  have := (Array.getElem?_eq_some_iff.1 h).1
  simp [this]
theorem set_other (a : Array Value) (i j : Nat) (u : Value) (h : i ≠ j) : (a.setIfInBounds i u)[j]? = a[j]? := by
  simp [h]

theorem info9 : (Try.prog.info? 9).map (fun i => (i.zero, i.size, i.bytes)) = some (some (.string ⟨#[]⟩), 1, 16) := by kernel_rfl

theorem row2 {w : World} {base : Nat} {v : Value} {x y : ByteArray} (h : w.ownsRow base 9 1 v 2 [.string x, .string y]) :
    ∃ g cap cur, v = .slice (some ⟨g, 0, none⟩) 2 cap ∧ base ≤ g ∧ w.heap[g]? = some (.cells cur 9 (0, 0)) ∧ cur[0]? = some (.string x) ∧ cur[1]? = some (.string y) := by
  rcases h.2 with ⟨_, hn⟩ | ⟨g, cap, cur, hv, hg, hh, _, _, _, ht⟩
  · cases hn
  · have h0 : (cur.toList.take (2 * 1))[0]? = some (.string x) := by rw [ht]; rfl
    have h1 : (cur.toList.take (2 * 1))[1]? = some (.string y) := by rw [ht]; rfl
    rw [List.getElem?_take, if_pos (by decide)] at h0 h1
    exact ⟨g, cap, cur, hv, hg, hh, by simpa using h0, by simpa using h1⟩

set_option maxHeartbeats 800000 in
theorem done_00 (base : Nat) (v : Value) (x y more : ByteArray) (w : World) (hP : PairAt w base v x y) (hs : x.size + more.size ≤ 1000000000000) :
    Calls Try.prog 36 #[v, .agg #[.int .i64 0, .bool false, .string more]] w fun e w' => ∃ v', e = .returned v' ∧ PairAt w' w.heap.size v' (x ++ more) y ∧ Below w.heap.size w w' := by
  obtain ⟨g, c, cur, rfl, hg, hB, h0, h1⟩ := hP
  have c0 : w.cell? ⟨g, 0, none⟩ = some (.string x) := (blk_cell hB 0).trans h0
  have c1 : w.cell? ⟨g, 1, none⟩ = some (.string y) := (blk_cell hB 1).trans h1
  have hgl := blk_lt hB
  obtain ⟨i0, hi, hz0, hz1, hz2⟩ := info_parts info9
  have Hi := Lib.hid hi
  have Hz0 := Lib.hid hz0
  have Hz1 := Lib.hid hz1
  have Hz2 := Lib.hid hz2
  clear hi hz0 hz1 hz2 hB h0 h1
  have hnew : Hid (∀ o1 o2, ∀ j u, [Value.string x, .string y][j]? = some u → ((w.alloc o1).alloc o2).cell? ((⟨g, 0, none⟩ : Addr).add j) = some u) := by
    intro o1 o2 j u hu
    have hbb := below2 w o1 o2
    match j, hu with
    | 0, hu => simp at hu; subst hu; exact (hbb.cell (p := ⟨g, 0, none⟩) hgl).trans c0
    | 1, hu => simp at hu; subst hu; exact (hbb.cell (p := ⟨g, 1, none⟩) hgl).trans c1
    | j + 2, hu => simp at hu
  go_enter Try.func36, Try.ntmps36
  go_wp2_with (at_builtin; refine wpList_append_grows _ rfl (.tmp 6) (.tmp 7) 38 rfl 9 i0 (.string ⟨#[]⟩) 1 16 Try.underlying38 Hi.out Hz0.out Hz1.out Hz2.out rfl (by decide) (some ⟨w.heap.size + 1, 0, none⟩) 0 0 [] rfl (fun h => by cases h) rfl (by intro _ _ _ _ h; simp at h) ⟨g, 0, none⟩ 2 c [.string x, .string y] rfl rfl (hnew.out _ _) (by intro u hu; simp at hu; rcases hu with rfl | rfl <;> rfl) (by omega) (by unfold maxLen; omega) (by omega) ?grow)
  case grow =>
    intro v' w3 hown hgr
    obtain ⟨g', cap, cur', rfl, hg', hB3, h0, h1⟩ := row2 hown
    have hb3 : Below w.heap.size w w3 := (below2 w (Obj.cells #[.int .i64 0, .bool false, .string more] 68) (Obj.cells #[] 9)).grown hgr (by simp; omega) (fun _ h => by cases h)
    have hO3 : w3.heap[w.heap.size]? = some (Obj.cells #[.int .i64 0, .bool false, .string more] 68) := blk_grown (blk_alloc (blk_new w (Obj.cells #[.int .i64 0, .bool false, .string more] 68)) (Obj.cells #[] 9)) hgr (by simp)
    have hg2 : w.heap.size + 1 + 1 ≤ g' := by simpa using hg'
    have e0 : w3.cell? ⟨g', 0, none⟩ = some (.string x) := (blk_cell hB3 0).trans h0
    have e1 : w3.cell? ⟨g', 1, none⟩ = some (.string y) := (blk_cell hB3 1).trans h1
    have f0 := blk_frozen hB3 0
    have f1 := blk_frozen hB3 1
    have o0 : w3.cell? ⟨w.heap.size, 0, none⟩ = some (.int .i64 0) := blk_cell hO3 0
    have o1 : w3.cell? ⟨w.heap.size, 1, none⟩ = some (.bool false) := blk_cell hO3 1
    have o2 : w3.cell? ⟨w.heap.size, 2, none⟩ = some (.string more) := blk_cell hO3 2
    have hg3 : w.heap.size ≠ g' := by omega
    have hg4 : g' ≠ w.heap.size := by omega
    have HB3 := Lib.hid hB3
    have H0 := Lib.hid h0
    have H1 := Lib.hid h1
    clear hB3 hO3 c0 c1 hown hgr h0 h1
    go_wp2
    go_region
    all_goals
      go_wp2
      go_ret
      refine ⟨_, rfl, ⟨g', cap, _, rfl, by omega, blk_set HB3.out 0 (.string (x ++ more)), ?_, ?_⟩, ?_⟩
      · exact set_same _ _ _ _ H0.out
      · exact (set_other _ _ _ _ (by decide)).trans H1.out
      · first | exact hb3.setCell (by simp; omega) _ | exact (hb3.setCell (by simp; omega) _).drew

set_option maxHeartbeats 800000 in
theorem done_01 (base : Nat) (v : Value) (x y more : ByteArray) (w : World) (hP : PairAt w base v x y) (hs : x.size + more.size ≤ 1000000000000) :
    Calls Try.prog 36 #[v, .agg #[.int .i64 0, .bool true, .string more]] w fun e w' => ∃ v', e = .returned v' ∧ PairAt w' w.heap.size v' ⟨#[]⟩ y ∧ Below w.heap.size w w' := by
  obtain ⟨g, c, cur, rfl, hg, hB, h0, h1⟩ := hP
  have c0 : w.cell? ⟨g, 0, none⟩ = some (.string x) := (blk_cell hB 0).trans h0
  have c1 : w.cell? ⟨g, 1, none⟩ = some (.string y) := (blk_cell hB 1).trans h1
  have hgl := blk_lt hB
  obtain ⟨i0, hi, hz0, hz1, hz2⟩ := info_parts info9
  have Hi := Lib.hid hi
  have Hz0 := Lib.hid hz0
  have Hz1 := Lib.hid hz1
  have Hz2 := Lib.hid hz2
  clear hi hz0 hz1 hz2 hB h0 h1
  have hnew : Hid (∀ o1 o2, ∀ j u, [Value.string x, .string y][j]? = some u → ((w.alloc o1).alloc o2).cell? ((⟨g, 0, none⟩ : Addr).add j) = some u) := by
    intro o1 o2 j u hu
    have hbb := below2 w o1 o2
    match j, hu with
    | 0, hu => simp at hu; subst hu; exact (hbb.cell (p := ⟨g, 0, none⟩) hgl).trans c0
    | 1, hu => simp at hu; subst hu; exact (hbb.cell (p := ⟨g, 1, none⟩) hgl).trans c1
    | j + 2, hu => simp at hu
  go_enter Try.func36, Try.ntmps36
  go_wp2_with (at_builtin; refine wpList_append_grows _ rfl (.tmp 6) (.tmp 7) 38 rfl 9 i0 (.string ⟨#[]⟩) 1 16 Try.underlying38 Hi.out Hz0.out Hz1.out Hz2.out rfl (by decide) (some ⟨w.heap.size + 1, 0, none⟩) 0 0 [] rfl (fun h => by cases h) rfl (by intro _ _ _ _ h; simp at h) ⟨g, 0, none⟩ 2 c [.string x, .string y] rfl rfl (hnew.out _ _) (by intro u hu; simp at hu; rcases hu with rfl | rfl <;> rfl) (by omega) (by unfold maxLen; omega) (by omega) ?grow)
  case grow =>
    intro v' w3 hown hgr
    obtain ⟨g', cap, cur', rfl, hg', hB3, h0, h1⟩ := row2 hown
    have hb3 : Below w.heap.size w w3 := (below2 w (Obj.cells #[.int .i64 0, .bool true, .string more] 68) (Obj.cells #[] 9)).grown hgr (by simp; omega) (fun _ h => by cases h)
    have hO3 : w3.heap[w.heap.size]? = some (Obj.cells #[.int .i64 0, .bool true, .string more] 68) := blk_grown (blk_alloc (blk_new w (Obj.cells #[.int .i64 0, .bool true, .string more] 68)) (Obj.cells #[] 9)) hgr (by simp)
    have hg2 : w.heap.size + 1 + 1 ≤ g' := by simpa using hg'
    have e0 : w3.cell? ⟨g', 0, none⟩ = some (.string x) := (blk_cell hB3 0).trans h0
    have e1 : w3.cell? ⟨g', 1, none⟩ = some (.string y) := (blk_cell hB3 1).trans h1
    have f0 := blk_frozen hB3 0
    have f1 := blk_frozen hB3 1
    have o0 : w3.cell? ⟨w.heap.size, 0, none⟩ = some (.int .i64 0) := blk_cell hO3 0
    have o1 : w3.cell? ⟨w.heap.size, 1, none⟩ = some (.bool true) := blk_cell hO3 1
    have o2 : w3.cell? ⟨w.heap.size, 2, none⟩ = some (.string more) := blk_cell hO3 2
    have hg3 : w.heap.size ≠ g' := by omega
    have hg4 : g' ≠ w.heap.size := by omega
    have HB3 := Lib.hid hB3
    have H0 := Lib.hid h0
    have H1 := Lib.hid h1
    clear hB3 hO3 c0 c1 hown hgr h0 h1
    go_wp2

    all_goals
      skip
      go_ret
      refine ⟨_, rfl, ⟨g', cap, _, rfl, by omega, blk_set HB3.out 0 (.string ⟨#[]⟩), ?_, ?_⟩, ?_⟩
      · exact set_same _ _ _ _ H0.out
      · exact (set_other _ _ _ _ (by decide)).trans H1.out
      · first | exact hb3.setCell (by simp; omega) _ | exact (hb3.setCell (by simp; omega) _).drew

set_option maxHeartbeats 800000 in
theorem done_10 (base : Nat) (v : Value) (x y more : ByteArray) (w : World) (hP : PairAt w base v x y) (hs : y.size + more.size ≤ 1000000000000) :
    Calls Try.prog 36 #[v, .agg #[.int .i64 1, .bool false, .string more]] w fun e w' => ∃ v', e = .returned v' ∧ PairAt w' w.heap.size v' x (y ++ more) ∧ Below w.heap.size w w' := by
  obtain ⟨g, c, cur, rfl, hg, hB, h0, h1⟩ := hP
  have c0 : w.cell? ⟨g, 0, none⟩ = some (.string x) := (blk_cell hB 0).trans h0
  have c1 : w.cell? ⟨g, 1, none⟩ = some (.string y) := (blk_cell hB 1).trans h1
  have hgl := blk_lt hB
  obtain ⟨i0, hi, hz0, hz1, hz2⟩ := info_parts info9
  have Hi := Lib.hid hi
  have Hz0 := Lib.hid hz0
  have Hz1 := Lib.hid hz1
  have Hz2 := Lib.hid hz2
  clear hi hz0 hz1 hz2 hB h0 h1
  have hnew : Hid (∀ o1 o2, ∀ j u, [Value.string x, .string y][j]? = some u → ((w.alloc o1).alloc o2).cell? ((⟨g, 0, none⟩ : Addr).add j) = some u) := by
    intro o1 o2 j u hu
    have hbb := below2 w o1 o2
    match j, hu with
    | 0, hu => simp at hu; subst hu; exact (hbb.cell (p := ⟨g, 0, none⟩) hgl).trans c0
    | 1, hu => simp at hu; subst hu; exact (hbb.cell (p := ⟨g, 1, none⟩) hgl).trans c1
    | j + 2, hu => simp at hu
  go_enter Try.func36, Try.ntmps36
  go_wp2_with (at_builtin; refine wpList_append_grows _ rfl (.tmp 6) (.tmp 7) 38 rfl 9 i0 (.string ⟨#[]⟩) 1 16 Try.underlying38 Hi.out Hz0.out Hz1.out Hz2.out rfl (by decide) (some ⟨w.heap.size + 1, 0, none⟩) 0 0 [] rfl (fun h => by cases h) rfl (by intro _ _ _ _ h; simp at h) ⟨g, 0, none⟩ 2 c [.string x, .string y] rfl rfl (hnew.out _ _) (by intro u hu; simp at hu; rcases hu with rfl | rfl <;> rfl) (by omega) (by unfold maxLen; omega) (by omega) ?grow)
  case grow =>
    intro v' w3 hown hgr
    obtain ⟨g', cap, cur', rfl, hg', hB3, h0, h1⟩ := row2 hown
    have hb3 : Below w.heap.size w w3 := (below2 w (Obj.cells #[.int .i64 1, .bool false, .string more] 68) (Obj.cells #[] 9)).grown hgr (by simp; omega) (fun _ h => by cases h)
    have hO3 : w3.heap[w.heap.size]? = some (Obj.cells #[.int .i64 1, .bool false, .string more] 68) := blk_grown (blk_alloc (blk_new w (Obj.cells #[.int .i64 1, .bool false, .string more] 68)) (Obj.cells #[] 9)) hgr (by simp)
    have hg2 : w.heap.size + 1 + 1 ≤ g' := by simpa using hg'
    have e0 : w3.cell? ⟨g', 0, none⟩ = some (.string x) := (blk_cell hB3 0).trans h0
    have e1 : w3.cell? ⟨g', 1, none⟩ = some (.string y) := (blk_cell hB3 1).trans h1
    have f0 := blk_frozen hB3 0
    have f1 := blk_frozen hB3 1
    have o0 : w3.cell? ⟨w.heap.size, 0, none⟩ = some (.int .i64 1) := blk_cell hO3 0
    have o1 : w3.cell? ⟨w.heap.size, 1, none⟩ = some (.bool false) := blk_cell hO3 1
    have o2 : w3.cell? ⟨w.heap.size, 2, none⟩ = some (.string more) := blk_cell hO3 2
    have hg3 : w.heap.size ≠ g' := by omega
    have hg4 : g' ≠ w.heap.size := by omega
    have HB3 := Lib.hid hB3
    have H0 := Lib.hid h0
    have H1 := Lib.hid h1
    clear hB3 hO3 c0 c1 hown hgr h0 h1
    go_wp2
    go_region
    all_goals
      go_wp2
      go_ret
      refine ⟨_, rfl, ⟨g', cap, _, rfl, by omega, blk_set HB3.out 1 (.string (y ++ more)), ?_, ?_⟩, ?_⟩
      · exact (set_other _ _ _ _ (by decide)).trans H0.out
      · exact set_same _ _ _ _ H1.out
      · first | exact hb3.setCell (by simp; omega) _ | exact (hb3.setCell (by simp; omega) _).drew

set_option maxHeartbeats 800000 in
theorem done_11 (base : Nat) (v : Value) (x y more : ByteArray) (w : World) (hP : PairAt w base v x y) (hs : y.size + more.size ≤ 1000000000000) :
    Calls Try.prog 36 #[v, .agg #[.int .i64 1, .bool true, .string more]] w fun e w' => ∃ v', e = .returned v' ∧ PairAt w' w.heap.size v' x ⟨#[]⟩ ∧ Below w.heap.size w w' := by
  obtain ⟨g, c, cur, rfl, hg, hB, h0, h1⟩ := hP
  have c0 : w.cell? ⟨g, 0, none⟩ = some (.string x) := (blk_cell hB 0).trans h0
  have c1 : w.cell? ⟨g, 1, none⟩ = some (.string y) := (blk_cell hB 1).trans h1
  have hgl := blk_lt hB
  obtain ⟨i0, hi, hz0, hz1, hz2⟩ := info_parts info9
  have Hi := Lib.hid hi
  have Hz0 := Lib.hid hz0
  have Hz1 := Lib.hid hz1
  have Hz2 := Lib.hid hz2
  clear hi hz0 hz1 hz2 hB h0 h1
  have hnew : Hid (∀ o1 o2, ∀ j u, [Value.string x, .string y][j]? = some u → ((w.alloc o1).alloc o2).cell? ((⟨g, 0, none⟩ : Addr).add j) = some u) := by
    intro o1 o2 j u hu
    have hbb := below2 w o1 o2
    match j, hu with
    | 0, hu => simp at hu; subst hu; exact (hbb.cell (p := ⟨g, 0, none⟩) hgl).trans c0
    | 1, hu => simp at hu; subst hu; exact (hbb.cell (p := ⟨g, 1, none⟩) hgl).trans c1
    | j + 2, hu => simp at hu
  go_enter Try.func36, Try.ntmps36
  go_wp2_with (at_builtin; refine wpList_append_grows _ rfl (.tmp 6) (.tmp 7) 38 rfl 9 i0 (.string ⟨#[]⟩) 1 16 Try.underlying38 Hi.out Hz0.out Hz1.out Hz2.out rfl (by decide) (some ⟨w.heap.size + 1, 0, none⟩) 0 0 [] rfl (fun h => by cases h) rfl (by intro _ _ _ _ h; simp at h) ⟨g, 0, none⟩ 2 c [.string x, .string y] rfl rfl (hnew.out _ _) (by intro u hu; simp at hu; rcases hu with rfl | rfl <;> rfl) (by omega) (by unfold maxLen; omega) (by omega) ?grow)
  case grow =>
    intro v' w3 hown hgr
    obtain ⟨g', cap, cur', rfl, hg', hB3, h0, h1⟩ := row2 hown
    have hb3 : Below w.heap.size w w3 := (below2 w (Obj.cells #[.int .i64 1, .bool true, .string more] 68) (Obj.cells #[] 9)).grown hgr (by simp; omega) (fun _ h => by cases h)
    have hO3 : w3.heap[w.heap.size]? = some (Obj.cells #[.int .i64 1, .bool true, .string more] 68) := blk_grown (blk_alloc (blk_new w (Obj.cells #[.int .i64 1, .bool true, .string more] 68)) (Obj.cells #[] 9)) hgr (by simp)
    have hg2 : w.heap.size + 1 + 1 ≤ g' := by simpa using hg'
    have e0 : w3.cell? ⟨g', 0, none⟩ = some (.string x) := (blk_cell hB3 0).trans h0
    have e1 : w3.cell? ⟨g', 1, none⟩ = some (.string y) := (blk_cell hB3 1).trans h1
    have f0 := blk_frozen hB3 0
    have f1 := blk_frozen hB3 1
    have o0 : w3.cell? ⟨w.heap.size, 0, none⟩ = some (.int .i64 1) := blk_cell hO3 0
    have o1 : w3.cell? ⟨w.heap.size, 1, none⟩ = some (.bool true) := blk_cell hO3 1
    have o2 : w3.cell? ⟨w.heap.size, 2, none⟩ = some (.string more) := blk_cell hO3 2
    have hg3 : w.heap.size ≠ g' := by omega
    have hg4 : g' ≠ w.heap.size := by omega
    have HB3 := Lib.hid hB3
    have H0 := Lib.hid h0
    have H1 := Lib.hid h1
    clear hB3 hO3 c0 c1 hown hgr h0 h1
    go_wp2

    all_goals
      skip
      go_ret
      refine ⟨_, rfl, ⟨g', cap, _, rfl, by omega, blk_set HB3.out 1 (.string ⟨#[]⟩), ?_, ?_⟩, ?_⟩
      · exact (set_other _ _ _ _ (by decide)).trans H0.out
      · exact set_same _ _ _ _ H1.out
      · first | exact hb3.setCell (by simp; omega) _ | exact (hb3.setCell (by simp; omega) _).drew

end Go.Proofs.Ytallocndghjoeaa
